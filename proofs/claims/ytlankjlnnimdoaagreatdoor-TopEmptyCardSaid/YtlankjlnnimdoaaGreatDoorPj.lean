/- Walks and plain laws: WTopD, WTopE, WAudit, WTopF, WTopT, WEmptyA, WEmptyB, WEmptyC, WEmptyD, WEmptyE, WHandRoots, WHandEnds, WRef15, WCycleA, WCycleB, WEmptyF. -/
import Derived.Test.YtlankjlnnimdoaaGreatDoorPi
import Derived.Test.YtlankjlnnimdoaaGreatDoorPg
import Derived.Test.YtlankjlnnimdoaaGreatDoorPf
import Derived.Test.YtlankjlnnimdoaaGreatDoorPe
set_option linter.all false
namespace Go.Abs
open Go.Proofs Go.Proofs.YtlankjlnnimdoaaGreatDoor
set_option maxRecDepth 60000
set_option maxHeartbeats 4000000
theorem zhl {w:Wd} (h:zQ w=true):∀k,zQ (zJ w k)=true/\(zJ w k).log.length<=w.log.length+k
 |0=>⟨h,Nat.le_refl _⟩
 |k+1=>by
  obtain⟨h1,h2⟩:=zhl h k
  have:=zke (zJ w k) ⟨0,(k:Int)⟩
  exact⟨zdQ h1 _,by show(doW _ _).log.length<=_;omega⟩
theorem zut {w:Wd} (h:zQ w=true):zQ (zbc w)=true/\(zbc w).log.length<=w.log.length+5:=by
 obtain⟨h1,h2⟩:=zhl h w.t.length
 have h4:=(zP.1 h).1
 have:=zke (zJ w w.t.length) ⟨1,0⟩
 exact⟨zdQ h1 _,by show(doW _ _).log.length<=_;omega⟩
theorem zhv {w:Wd} (h:zQ w=true) (hl:w.log.length<=4000000):w.Fit:=zw6 h (by unfold zk;omega)
theorem zgO (w:Wd) (m:Nat) (hw:zQ w=true) (hL:w.log.length+5*m<=1000000):Spec X 11 [] [w.tv,.int (m:Int)] (Ret [] (roundsW m w).tv):=by
 refine zGO X_ok Tryz.f11 fun hb hH=>⟨rfl,?_⟩
 show ∃n,_
 refine⟨0,ALoop.inv (ι:={q:Nat×Wd // q.1<=m/\roundsW (m-q.1) q.2=roundsW m w/\zQ q.2=true/\q.2.log.length<=w.log.length+5*q.1}) (fun q=>⟨[(1,.int ((m:Int))),(2,.c (.ptr 0 0 0)),(4,.c (.ptr 1 0 0)),(5,.int ((q.1.1:Int)))],[(0,.vars (q.1.2.cells.map .d)),(1,.vars (List.replicate 18 .any))],128⟩) (fun q=>m-q.1.1) ⟨(0,w),Nat.zero_le _,rfl,hw,Nat.le_refl _⟩ ?_ ?_⟩
 ·exact⟨[(32,0),(64,1)],(by repeat' first|exact .nil|refine .cons _ _ _ ?_ ?_|exact .c _ _ (.ptr _ _ _ _ rfl)|exact .same|exact .c _ _ (.own _ _ rfl)|exact .c _ _ (.ptr _ _ _ _ rfl)|exact .c _ _ (.frz _ _ rfl)|exact .any _),(by exact .old 0 32 _ _ _ rfl rfl (.vars _ _ (by repeat (first|exact .nil|refine .cons _ _ _ _ (.d _) ?_))) (.old 1 64 _ _ _ rfl rfl (.vars _ _ (by repeat (first|exact .nil|refine .cons _ _ _ _ (.any _) ?_))) .nil)),(by rfl)⟩
 rintro⟨⟨i,u⟩,hi,hr,hp,hl⟩
 have hi:i<=m:=hi
 have hr:roundsW (m-i) u=roundsW m w:=hr
 have hp:zQ u=true:=hp
 have hl:u.log.length<=w.log.length+5*i:=hl
 by_cases hlt:i<m
 ·show ABr (bif decide ((i:Int)<(m:Int)) then (u.c.phase != 0) else false) _ _
  rw[decide_eq_true (show(i:Int)<(m:Int) by omega)]
  have hrd:roundsW (m-i) u=if u.c.phase≠0 then roundsW (m-(i+1)) (zbc u) else u:=by
   rw[show m-i=(m-(i+1))+1 by omega];rfl
  show ABr (u.c.phase != 0) _ _
  by_cases h0:u.c.phase=0
  ·rw[show(u.c.phase != 0)=false by simpa using h0]
   refine zNO (by decide) ?_
   rw[if_neg (fun k=>k h0)]at hrd
   have he:u=roundsW m w:=hrd.symm.trans hr
   show ARet ..
   refine⟨[],[],[(u).tv],.cons _ _ _ _ (.agg _ _ ?_) .nil,.nil,rfl,rfl,congrArg (fun x:Wd=>x.tv) he⟩
   repeat (first|exact .nil|refine .cons _ _ _ _ (.d _) ?_|refine .cons _ _ _ _ (.nilsl _) ?_|refine .cons _ _ _ _ (.frz _ _ rfl) ?_)
  ·rw[show(u.c.phase != 0)=true by simpa using h0]
   refine zYE (by decide) ?_
   rw[if_pos h0]at hrd
   have wi:IntKind.i64.wrap ((i:Int)+1)=((i+1:Nat):Int):=zad (i:=i) (by unfold zE;omega)
   have h4:=(zP.1 hp).1
   show ∃n,_
   refine⟨0,ALoop.inv (ι:={q:Nat // q<=u.t.length}) (fun q=>⟨[(1,.int ((m:Int))),(2,.c (.ptr 0 0 0)),(4,.c (.ptr 1 0 0)),(5,.int ((i:Int))),(6,.int ((q.1:Int)))],[(0,.vars ((zJ u q.1).cells.map .d)),(1,.vars (List.replicate 18 .any))],128⟩) (fun q=>u.t.length-q.1) ⟨0,Nat.zero_le _⟩ ?_ ?_⟩
   ·exact⟨[(0,0),(1,1)],(by repeat' first|exact .nil|refine .cons _ _ _ ?_ ?_|exact .c _ _ (.ptr _ _ _ _ rfl)|exact .same|exact .c _ _ (.own _ _ rfl)|exact .c _ _ (.ptr _ _ _ _ rfl)|exact .c _ _ (.frz _ _ rfl)|exact .any _),(by exact .old 0 0 _ _ _ rfl rfl (.vars _ _ (by repeat (first|exact .nil|refine .cons _ _ _ _ (.d _) ?_))) (.old 1 1 _ _ _ rfl rfl (.vars _ _ (by repeat (first|exact .nil|refine .cons _ _ _ _ (.any _) ?_))) .nil)),(by rfl)⟩
   rintro⟨j,hj⟩
   obtain⟨k1,k2⟩:=zhl hp j
   have klen:=zeu u j
   have kstep:zJ u (j+1)=doW (zJ u j) ⟨0,(j:Int)⟩:=rfl
   have kround:j=u.t.length->zbc u=doW (zJ u j) ⟨1,0⟩:=fun e=>by rw[e];rfl
   obtain⟨v,hv⟩:∃v,v=zJ u j:=⟨_,rfl⟩
   rw[←hv]at k1 k2 klen kstep kround ⊢
   show ABr (decide ((j:Int)<(v.t.length:Int))) _ _
   by_cases hjl:j<u.t.length
   ·rw[decide_eq_true (show(j:Int)<(v.t.length:Int) by omega)]
    refine zYE (by decide) ?_
    have wj:IntKind.i64.wrap ((j:Int)+1)=((j+1:Nat):Int):=zad (i:=j) (by unfold zE;omega)
    show ACall ..
    refine za (zd9 v ⟨0,(j:Int)⟩ (zhv k1 (by omega))) rfl ?_
    generalize doWE v ⟨0,(j:Int)⟩=x
    rw[←kstep]
    show ARound ..
    exact⟨⟨j+1,hjl⟩,(by dsimp only;omega),[(0,0),(1,1)],(by repeat' first|exact .nil|refine .cons _ _ _ ?_ ?_|exact .c _ _ (.ptr _ _ _ _ rfl)|exact .int_eq wj|exact .same|exact .c _ _ (.own _ _ rfl)|exact .c _ _ (.ptr _ _ _ _ rfl)|exact .c _ _ (.frz _ _ rfl)|exact .any _),(by exact .old 0 0 _ _ _ rfl rfl (.vars _ _ (by repeat (first|exact .nil|refine .cons _ _ _ _ (.d _) ?_))) (.old 1 1 _ _ _ rfl rfl (.vars _ _ (by repeat (first|exact .nil|refine .cons _ _ _ _ (.any _) ?_))) .nil)),(by rfl)⟩
   ·rw[decide_eq_false (show ¬(j:Int)<(v.t.length:Int) by omega)]
    refine zNO (by decide) ?_
    have hj:j<=u.t.length:=hj
    show ACall ..
    refine za (zd9 v ⟨1,0⟩ (zhv k1 (by omega))) rfl ?_
    generalize doWE v ⟨1,0⟩=x
    rw[←kround (by omega)]
    obtain⟨r1,r2⟩:=zut hp
    show ARound ..
    exact⟨⟨(i+1,zbc u),hlt,hrd.symm.trans hr,r1,by show(zbc u).log.length<=w.log.length+5*(i+1);omega⟩,(by dsimp only;omega),[(0,0),(1,1)],(by repeat' first|exact .nil|refine .cons _ _ _ ?_ ?_|exact .c _ _ (.ptr _ _ _ _ rfl)|exact .int_eq wi|exact .same|exact .c _ _ (.own _ _ rfl)|exact .c _ _ (.ptr _ _ _ _ rfl)|exact .c _ _ (.frz _ _ rfl)|exact .any _),(by exact .old 0 0 _ _ _ rfl rfl (.vars _ _ (by repeat (first|exact .nil|refine .cons _ _ _ _ (.d _) ?_))) (.old 1 1 _ _ _ rfl rfl (.vars _ _ (by repeat (first|exact .nil|refine .cons _ _ _ _ (.any _) ?_))) .nil)),(by rfl)⟩
 ·show ABr (bif decide ((i:Int)<(m:Int)) then (u.c.phase != 0) else false) _ _
  rw[decide_eq_false (show ¬(i:Int)<(m:Int) by omega)]
  show ABr false _ _
  refine zNO (by decide) ?_
  have hrd:roundsW (m-i) u=u:=by rw[show m-i=0 by omega];rfl
  have he:u=roundsW m w:=hrd.symm.trans hr
  show ARet ..
  refine⟨[],[],[(u).tv],.cons _ _ _ _ (.agg _ _ ?_) .nil,.nil,rfl,rfl,congrArg (fun x:Wd=>x.tv) he⟩
  repeat (first|exact .nil|refine .cons _ _ _ _ (.d _) ?_|refine .cons _ _ _ _ (.nilsl _) ?_|refine .cons _ _ _ _ (.frz _ _ rfl) ?_)
end Go.Abs
namespace Go.Abs
set_option maxRecDepth 8000
def opA:Op:=⟨0,0,3,0⟩
def evA:List Pair:=[⟨4,0⟩,⟨0,0⟩,⟨0,0⟩,⟨0,0⟩,⟨0,0⟩]
def w1A:Wd:=runW (madeW 1 [[opA,opA]]) evA
def hA:Hp:=⟨[4294967327,0,0,0,0,0,0,0,0,0,0,0,0,0,0,0],[⟨1,1⟩],⟨[],[28,24,20],[]⟩,[true,false]⟩
def cA:Col:=⟨0,1,true,[],false,0,0,0,0,false⟩
def tA:Thread:=⟨true,16,0,0,0,⟨[],[],[]⟩,1,3,0,[],0,0,0⟩
def wA:Wd:=⟨hA,cA,[tA],[⟨0,opA,0,0⟩,⟨0,opA,0,0⟩]⟩
theorem vA:zca 1 [[opA,opA]]=0/\(zu w1A.h).length=2/\w1A.log.length=2/\(roundsW 400 (zal w1A true)).h=wA.h/\(roundsW 400 (zal w1A true)).c=wA.c/\(roundsW 400 (zal w1A true)).t=wA.t/\(roundsW 400 (zal w1A true)).log=wA.log:=by decide +kernel
theorem vA2:zu hA=[16]/\headE hA 16=0/\headH hA 16=⟨true,true,true,3,0,1⟩/\zoU hA 16=true/\zQ wA=true:=by decide +kernel
theorem zg4:hA.light:=zwo (by decide) (by decide) (by decide)
theorem zyb:roundsW 400 (zal w1A true)=wA:=by
 obtain⟨_,_,_,h1,h2,h3,h4⟩:=vA
 generalize roundsW 400 (zal w1A true)=w at h1 h2 h3 h4
 cases w
 cases h1;cases h2;cases h3;cases h4
 rfl
open Go.Proofs Go.Proofs.YtlankjlnnimdoaaGreatDoor
set_option maxRecDepth 60000
set_option maxHeartbeats 4000000
theorem zo5:Spec X 89 [] [hA.tv,.int 16] (Ret [] (.c (.d (.sl .int ([0,0,0]:List Int))))):=by
 refine zGO X_ok Tryz.f89 fun hb hH=>⟨rfl,?_⟩
 show ACall ..
 refine za (zaJ hA 16 zg4) rfl ?_
 rw[vA2.2.1,vA2.2.2.1]
 refine zNO (by decide) ?_
 show AOb ..
 refine⟨by decide,?_⟩
 show AOb ..
 refine⟨by decide,?_⟩
 show ARet ..
 exact zi rfl ⟨rfl,rfl⟩
theorem zta:Spec X 46 [] (.int 16::zdi [.rp wA.cells]) (Ret [] (.bo false)):=by
 refine zGO X_ok Tryz.f46 fun hb hH=>⟨rfl,?_⟩
 show ACall ..
 refine za (zaJ hA 16 zg4) rfl ?_
 rw[vA2.2.1,vA2.2.2.1]
 show ARet ..
 exact zi rfl ⟨rfl,rfl⟩
theorem zps:Spec X 48 [] [wA.tv,.int 16] (Ret [] (.bo false)):=by
 refine zGO X_ok Tryz.f48 fun hb hH=>⟨rfl,?_⟩
 show ACall ..
 refine za (zaJ hA 16 zg4) rfl ?_
 rw[vA2.2.1,vA2.2.2.1]
 show AIf ..
 refine⟨fun h=>absurd h.1 (by decide),fun _=>?_⟩
 show AOb ..
 refine⟨by decide,?_⟩
 show AIf ..
 refine⟨fun _=>?_,fun h=>absurd ⟨rfl,trivial⟩ h⟩
 show ACall ..
 refine za (zx1 hA 16 zg4 (by decide)) rfl ?_
 rw[vA2.2.2.2.1]
 refine zYE (by decide) ?_
 show ARet ..
 exact zi rfl ⟨rfl,rfl⟩
theorem zum:Spec X 52 [] (.int 0::zdi [.rp wA.cells]) (Ret [] (.bo false)):=by
 refine zGO X_ok Tryz.f52 fun hb hH=>⟨rfl,?_⟩
 have hf:wA.Fit:=zhv vA2.2.2.2.2 (by decide)
 show ACall ..
 refine za (zjQ wA (fun t ht=>(hf.th t ht).1) (fun _=>hf.flat)) rfl ?_
 rw[vA2.2.2.2.2]
 show ARet ..
 exact zi rfl ⟨rfl,rfl⟩
theorem zy2:Spec X 88 [] [tA.tv] (Ret [] (.c (.d (.sl .int ([16]:List Int))))):=zsh tA
theorem zpj:Spec X 45 [] [wA.tv] (Ret [(0,.data .int ([16]:List Int))] (.c (.own 0))):=by
 refine zGO X_ok Tryz.f45 fun hb hH=>⟨rfl,?_⟩
 show ∃n,_
 refine⟨2,.next ?_⟩
 refine zYE (by decide) ?_
 show AOb ..
 refine⟨by decide,?_⟩
 show ABr true _ _
 refine zYE (by decide) ?_
 show ACall ..
 refine za (zy2) rfl ?_
 show AOb ..
 refine⟨by show(1:Nat)<=zk;decide,?_⟩
 show ALoop ..
 refine .next ?_
 refine zNO (by decide) ?_
 show ∃n,_
 refine⟨5,.next ?_⟩
 show ABr true _ _
 refine zYE (by decide) ?_
 show AOb ..
 refine⟨by decide,?_⟩
 show AOb ..
 refine⟨by decide,?_⟩
 show AOb ..
 refine⟨by decide,?_⟩
 show AOb ..
 refine⟨(fun _ p hp=>absurd hp (List.not_mem_nil)),?_⟩
 show ABr false _ _
 refine zNO (by decide) ?_
 show AOb ..
 refine⟨by show(1:Nat)<=zk;decide,?_⟩
 show ACall ..
 refine za (zo5) rfl ?_
 show AOb ..
 refine⟨by show(3:Nat)<=zk;decide,?_⟩
 iterate 3
  show ALoop ..
  refine .next ?_
  show ABr true _ _
  refine zYE (by decide) ?_
  show AOb ..
  refine⟨by decide,?_⟩
  show AOb ..
  refine⟨by decide,?_⟩
  show AOb ..
  refine⟨by decide,?_⟩
  show AOb ..
  refine⟨(fun h=>absurd h.1 (by decide)),?_⟩
  show ABr true _ _
  refine zYE (by decide) ?_
 show ALoop ..
 refine .next ?_
 show ABr false _ _
 refine zNO (by decide) ?_
 show ACall ..
 refine .hand [(_,16)] (zc8 ([16]:List Int)) [.c (.own 16)] _ (.cons _ _ _ _ (.c _ _ (.own1 _ _)) .nil) (.old 16 _ _ _ _ rfl rfl (.data_eq rfl) .nil) rfl (zgs [16] (by decide)) ?_
 rintro H r ⟨rfl,l',rfl,hsr,_⟩ _ _
 have hl' : l' = [16]:=List.perm_singleton.1 hsr.perm
 refine⟨rfl,.inr ⟨rfl,rfl⟩,?_⟩
 show ARet ..
 exact⟨[(_,0)],[(0,.data .int ([16]:List Int))],[.c (.own 0)],.cons _ _ _ _ (.c _ _ (.own1 _ _)) .nil,.old 0 _ _ _ _ rfl rfl (.data_eq hl') .nil,rfl,rfl,rfl⟩
theorem zjE (k:Int) (l:List Int) (g:Nat) (cs:List DV) (hp:∀x∈l,Spec X g [] (.int x::zdi cs) (Ret [] (.bo false))) :
  Spec X 44 [(16,.vars [.d .nilsl])] [.int k,.c (.d (.sl .int l)),.c (.d (.fn g [] cs)),.c (.ptr 16 0 0)] (fun H r=>H=[(16,.vars [.d .nilsl])]/\r = .tup []):=by
 refine zGO X_ok Tryz.f44 fun hb hH=>⟨rfl,?_⟩
 have hll:l.length<=zE:=(hb (.c (.d (.sl .int l))) (by simp)).1
 unfold zE at hll
 show ∃n,_
 refine⟨0,ALoop.inv (ι:={i:Nat // i<=l.length}) (fun q=>⟨[(0,.int (k)),(2,(.c (.d (.fn g [] cs)))),(3,.c (.ptr 16 0 0)),(9,.c (.d (.sl .int (l)))),(10,.int ((l.length:Int))),(11,.int (q.1))],[(16,.vars [.d .nilsl])],64⟩) (fun q=>l.length-q.1) ⟨0,Nat.zero_le _⟩ ?_ ?_⟩
 ·exact⟨[(16,16)],(by repeat' first|exact .nil|refine .cons _ _ _ ?_ ?_|exact .c _ _ (.ptr _ _ _ _ rfl)|exact .same|exact .c _ _ (.own _ _ rfl)|exact .c _ _ (.ptr _ _ _ _ rfl)|exact .c _ _ (.frz _ _ rfl)|exact .any _),(by exact .old 16 16 _ _ _ rfl rfl (.vars _ _ (zb rfl)) .nil),(by rfl)⟩
 rintro⟨i,hi⟩
 show ABr (decide ((i:Int)<(l.length:Int))) _ _
 refine⟨fun h=>?_,fun h=>?_⟩
 ·have hlt:i<l.length:=by simpa using h
  have wi:IntKind.i64.wrap ((i:Int)+1)=((i+1:Nat):Int):=zad (i:=i) (by unfold zE;omega)
  show AOb ..
  refine⟨by exact⟨Int.natCast_nonneg _,Int.ofNat_lt.2 hlt⟩,?_⟩
  show ACall ..
  refine zk8 (hp _ (zdM hlt)) ?_
  refine zNO (by decide) ?_
  show ARound ..
  exact⟨⟨i+1,hlt⟩,(by dsimp only;omega),[(16,16)],(by repeat' first|exact .nil|refine .cons _ _ _ ?_ ?_|exact .int_eq wi|exact .c _ _ (.ptr _ _ _ _ rfl)|exact .same|exact .c _ _ (.own _ _ rfl)|exact .c _ _ (.ptr _ _ _ _ rfl)|exact .c _ _ (.frz _ _ rfl)|exact .any _),(by exact .old 16 16 _ _ _ rfl rfl (.vars _ _ (zb rfl)) .nil),(by rfl)⟩
 ·show ARet ..
  exact⟨[(16,16)],[(16,.vars [.d .nilsl])],[],.nil,.old 16 16 _ _ _ rfl rfl (.vars _ _ (zb rfl)) .nil,rfl,rfl,rfl⟩
theorem zov:Spec X 47 [] (.int 16::zdi [.rp wA.cells]) (Ret [] (.bo false)):=by
 refine zGO X_ok Tryz.f47 fun hb hH=>⟨rfl,?_⟩
 show ACall ..
 refine za (zps) rfl ?_
 show ARet ..
 exact zi rfl ⟨rfl,rfl⟩
theorem zmk:Spec X 15 [] [hA.tv] (Ret [] (.c (.d (.sl .int ([16]:List Int))))):=by
 have h:=zh3 hA zg4
 rw[vA2.1]at h
 exact h
theorem zrf:Spec X 24 [] [wA.tv] (Ret [] (.c (.d .nilsl))):=by
 refine zGO X_ok Tryz.f24 fun hb hH=>⟨rfl,?_⟩
 show ACall ..
 refine .mk _ zpj fun H r ⟨eH,er⟩ _ _=>⟨.inl rfl,?_⟩
 subst eH er
 show ACall ..
 refine .hand [(96,16)] [(16,.vars [.d .nilsl])] [.int 1,.c (.d (.sl .int ([16]:List Int))),.c (.d (.fn 46 [] [.rp wA.cells])),.c (.ptr 16 0 0)] _ (.cons _ _ _ _ .same (.cons _ _ _ _ (.c _ _ (.frz _ _ rfl)) (.cons _ _ _ _ (.c _ _ (.frz _ _ rfl)) (.cons _ _ _ _ (.c _ _ (.ptr _ _ _ _ rfl)) .nil)))) (.old 16 96 _ _ _ rfl rfl (.vars _ _ (zb rfl)) .nil) rfl (zjE 1 [16] 46 [.rp wA.cells] (fun x hx=>by cases hx with
  |head=>exact zta
  |tail _ hx=>cases hx)) ?_
 rintro H r ⟨rfl,rfl⟩ _ _
 refine⟨rfl,.inr ⟨rfl,rfl⟩,?_⟩
 show ACall ..
 refine za (zmk) rfl ?_
 show ACall ..
 refine .hand [(96,16)] [(16,.vars [.d .nilsl])] [.int 2,.c (.d (.sl .int ([16]:List Int))),.c (.d (.fn 47 [] [.rp wA.cells])),.c (.ptr 16 0 0)] _ (.cons _ _ _ _ .same (.cons _ _ _ _ (.c _ _ (.d _)) (.cons _ _ _ _ (.c _ _ (.frz _ _ rfl)) (.cons _ _ _ _ (.c _ _ (.ptr _ _ _ _ rfl)) .nil)))) (.old 16 96 _ _ _ rfl rfl (.vars _ _ (zb rfl)) .nil) rfl (zjE 2 [16] 47 [.rp wA.cells] (fun x hx=>by cases hx with
  |head=>exact zov
  |tail _ hx=>cases hx)) ?_
 rintro H r ⟨rfl,rfl⟩ _ _
 refine⟨rfl,.inr ⟨rfl,rfl⟩,?_⟩
 show ABr false _ _
 refine zNO (by decide) ?_
 show ACall ..
 refine .hand [(96,16)] [(16,.vars [.d .nilsl])] [.int 4,.c (.d (.sl .int ([0]:List Int))),.c (.d (.fn 52 [] [.rp wA.cells])),.c (.ptr 16 0 0)] _ (.cons _ _ _ _ .same (.cons _ _ _ _ (.c _ _ (.frz _ _ rfl)) (.cons _ _ _ _ (.c _ _ (.frz _ _ rfl)) (.cons _ _ _ _ (.c _ _ (.ptr _ _ _ _ rfl)) .nil)))) (.old 16 96 _ _ _ rfl rfl (.vars _ _ (zb rfl)) .nil) rfl (zjE 4 [0] 52 [.rp wA.cells] (fun x hx=>by cases hx with
  |head=>exact zum
  |tail _ hx=>cases hx)) ?_
 rintro H r ⟨rfl,rfl⟩ _ _
 refine⟨rfl,.inr ⟨rfl,rfl⟩,?_⟩
 show ARet ..
 exact zi rfl ⟨rfl,rfl⟩
theorem ztq {w:Wd} (h:zQ w=true):w.h.light:=Nat.le_trans (znO (zbI (zP.1 h).2.2.2)) (by unfold zk;decide)
theorem zlt (w:Wd) (h:zQ w=true):Spec X 15 [] [w.h.tv] (Ret [] (.c (.d (.sl .int (zu w.h))))):=zh3 w.h (ztq h)
theorem zrE:Spec X 7 [] [] (Ret [] (.bo true)):=by
 refine Spec.fz (zGO zmN Tryz.f7 fun hb hH=>⟨rfl,?_⟩)
 have m0:=zmI vA.1
 have hF:=zuc vA.1 (e:=evA) (by decide)
 have r1:=zpa m0.1 evA
 have hw1:runW (madeW 1 [[opA,opA]]) evA=w1A:=rfl
 have hu1:=vA.2.1
 have hl1:=vA.2.2.1
 have hr1:=zyb
 show ACall ..
 refine za ((zjJ 1 [[opA,opA]]).uz) rfl ?_
 rw[vA.1]
 obtain⟨W0,hW⟩:∃W0,W0=madeW 1 [[opA,opA]]:=⟨_,rfl⟩
 rw[←hW]at m0 hF r1 hw1 ⊢
 show ACall ..
 refine za (zu8 W0 evA (by decide) (fun i _=>hF i)).uz rfl ?_
 obtain⟨w1,hw1'⟩:∃w1,w1=w1A:=⟨_,rfl⟩
 rw[←hw1']at hw1 hu1 hl1 hr1
 rw[hw1]at r1 ⊢
 show ACall ..
 refine za (zlt w1 r1).uz rfl ?_
 show ACall ..
 refine za (ziF w1 true (zhv r1 (by omega))).uz rfl ?_
 have r2:zQ (zal w1 true)=true:=zdQ r1 _
 have l2:(zal w1 true).log.length<=w1.log.length+1:=zke w1 _
 obtain⟨w2,hw2⟩:∃w2,w2=zal w1 true:=⟨_,rfl⟩
 rw[←hw2]at hr1 r2 l2 ⊢
 show ACall ..
 refine za (zgO w2 400 r2 (by omega)).uz rfl ?_
 rw[hr1]
 have hlen:(((zu w1.h).length:Int)==2)=true:=by rw[hu1];rfl
 show AIf ((((zu w1.h).length:Int)==2)=true/\True) _ _
 refine⟨fun _=>?_,fun h=>absurd ⟨hlen,trivial⟩ h⟩
 show ACall ..
 refine za zmk.uz rfl ?_
 show AIf ..
 refine⟨fun _=>?_,fun h=>absurd ⟨(by decide),trivial⟩ h⟩
 show ACall ..
 refine za zrf.uz rfl ?_
 show ARet ..
 exact zi rfl ⟨rfl,rfl⟩
theorem zyC:Spec X 7 [] [] (Ret [] (.bo true)):=zrE
theorem zfU (g:Hp) (c:Col) (l:List Thread) (hs:g.small) (hw:c.work.length<=zk) (h:1<=c.phase) (h3:c.phase<=3):Spec X 158 [(16,.data .thread l),(17,.vars [.own 16])] [g.tv,c.tv,.c (.ptr 17 0 0)] (fun H r=>H=[(16,.data .thread l),(17,.vars [.own 16])]/\r = .tup [g.tv,(waitC c l).tv]):=by
 refine zGO X_ok Tryz.f158 fun hb hH=>⟨rfl,?_⟩
 show ACall ..
 refine za (zdm g c hs hw) rfl ?_
 show ACall ..
 refine za (zn1 c l) rfl ?_
 unfold waitC
 cases ha:zir c l with
 |true=>
  rw[if_pos rfl]
  refine zYE (by decide) ?_
  show ACall ..
  refine za (zkC c h h3) rfl ?_
  show ARet ..
  exact⟨[(16,16),(17,17)],[(16,.data .thread l),(17,.vars [.own 16])],[g.tv,(zgj c).tv],.cons _ _ _ _ (.agg _ _ (zb rfl)) (.cons _ _ _ _ (.agg _ _ (zb rfl)) .nil),.old 16 16 _ _ _ rfl rfl (.data_eq rfl) (.old 17 17 _ _ _ rfl rfl (.vars _ _ (.cons _ _ _ _ (.own _ _ rfl) .nil)) .nil),rfl,rfl,rfl⟩
 |false=>
  rw[if_neg (by decide)]
  refine zNO (by decide) ?_
  show ARet ..
  exact⟨[(16,16),(17,17)],[(16,.data .thread l),(17,.vars [.own 16])],[g.tv,(c).tv],.cons _ _ _ _ (.agg _ _ (zb rfl)) (.cons _ _ _ _ (.agg _ _ (zb rfl)) .nil),.old 16 16 _ _ _ rfl rfl (.data_eq rfl) (.old 17 17 _ _ _ rfl rfl (.vars _ _ (.cons _ _ _ _ (.own _ _ rfl) .nil)) .nil),rfl,rfl,rfl⟩
theorem zoq (g:Hp) (c:Col) (l:List Thread) (hl:g.light) (hs:g.small) (hw:c.work.length<zk):Spec X 117 [(16,.data .thread l)] [g.tv,c.tv,.c (.own 16)] (fun H r=>H=[(16,.data .thread l)]/\r = .tup [(zbN g c l).1.tv,(zbN g c l).2.tv]):=by
 obtain⟨ph,ep,mj,wk,ov,ca,cf,ck,cc,cm⟩:=c
 refine zGO X_ok Tryz.f117 fun hb hH=>⟨rfl,?_⟩
 show ACall ..
 refine za ((zgg ⟨ph,ep,mj,wk,ov,ca,cf,ck,cc,cm⟩)) rfl ?_
 cases hm:zbi ⟨ph,ep,mj,wk,ov,ca,cf,ck,cc,cm⟩ with
 |false=>
  rw[zk5 (fun k=>by rw[hm]at k;cases k.1)]
  refine zYE (by decide) ?_
  show ACall ..
  refine za ((zdm g ⟨ph,ep,mj,wk,ov,ca,cf,ck,cc,cm⟩ hs (by omega))) rfl ?_
  show ARet ..
  exact⟨[(16,16)],[(16,.data .thread l)],[(g).tv,((⟨ph,ep,mj,wk,ov,ca,cf,ck,cc,cm⟩:Col)).tv],.cons _ _ _ _ (.agg _ _ (zb rfl)) (.cons _ _ _ _ (.agg _ _ (zb rfl)) .nil),.old 16 16 _ _ _ rfl rfl (.data_eq rfl) .nil,rfl,rfl,rfl⟩
 |true=>
  refine zNO (by decide) ?_
  obtain⟨m1,m2,_⟩:=zeT hm
  have hc:ph=0\/ph=1\/ph=2\/ph=3\/ph=4\/ph=5\/ph=6:=by
   have m1:0<=ph:=m1
   have m2:ph<=6:=m2
   omega
  rcases hc with e|e|e|e|e|e|e
  ·subst e
   rw[zk5 (fun k=>k.2 rfl)]
   show AOb ((0:Int)<=0/\(0:Int)<7) _
   refine⟨by decide,?_⟩
   show ADCall ..
   refine .mk _ _ ((zdm g _ hs (by omega))) rfl ?_
   show ARet ..
   exact⟨[(16,16)],[(16,.data .thread l)],[(g).tv,((⟨0,ep,mj,wk,ov,ca,cf,ck,cc,cm⟩:Col)).tv],.cons _ _ _ _ (.agg _ _ (zb rfl)) (.cons _ _ _ _ (.agg _ _ (zb rfl)) .nil),.old 16 16 _ _ _ rfl rfl (.data_eq rfl) .nil,rfl,rfl,rfl⟩
  ·subst e
   rw[zd7 hm (by show(1:Int)<=1;decide) (by show(1:Int)<=3;decide)]
   show AOb ((0:Int)<=1/\(1:Int)<7) _
   refine⟨by decide,?_⟩
   show ADCall ..
   refine .any (.tup [g.tv,(waitC (⟨1,ep,mj,wk,ov,ca,cf,ck,cc,cm⟩:Col) l).tv]) [(16,.data .thread l),(96,.vars [.own 16])] (.hand [(16,16),(96,17)] [(16,.data .thread l),(17,.vars [.own 16])] [g.tv,(⟨1,ep,mj,wk,ov,ca,cf,ck,cc,cm⟩:Col).tv,.c (.ptr 17 0 0)] _ (.cons _ _ _ _ (.agg _ _ (zb rfl)) (.cons _ _ _ _ (.agg _ _ (zb rfl)) (.cons _ _ _ _ (.c _ _ (.ptr _ _ _ _ rfl)) .nil))) (.old 16 16 _ _ _ rfl rfl (.data_eq rfl) (.old 17 96 _ _ _ rfl rfl (.vars _ _ (.cons _ _ _ _ (.own _ _ rfl) .nil)) .nil)) rfl (zfU g _ l hs (Nat.le_of_lt hw) (by show(1:Int)<=1;decide) (by show(1:Int)<=3;decide)) ?_) ?_
   ·rintro H r ⟨rfl,rfl⟩ _ _
    exact⟨rfl,.inl rfl,rfl,rfl⟩
   generalize waitC (⟨1,ep,mj,wk,ov,ca,cf,ck,cc,cm⟩:Col) l=c'
   show ARet ..
   exact⟨[(16,16)],[(16,.data .thread l)],[(g).tv,(c').tv],.cons _ _ _ _ (.agg _ _ (zb rfl)) (.cons _ _ _ _ (.agg _ _ (zb rfl)) .nil),.old 16 16 _ _ _ rfl rfl (.data_eq rfl) .nil,rfl,rfl,rfl⟩
  ·subst e
   rw[zd7 hm (by show(1:Int)<=2;decide) (by show(2:Int)<=3;decide)]
   show AOb ((0:Int)<=2/\(2:Int)<7) _
   refine⟨by decide,?_⟩
   show ADCall ..
   refine .any (.tup [g.tv,(waitC (⟨2,ep,mj,wk,ov,ca,cf,ck,cc,cm⟩:Col) l).tv]) [(16,.data .thread l),(96,.vars [.own 16])] (.hand [(16,16),(96,17)] [(16,.data .thread l),(17,.vars [.own 16])] [g.tv,(⟨2,ep,mj,wk,ov,ca,cf,ck,cc,cm⟩:Col).tv,.c (.ptr 17 0 0)] _ (.cons _ _ _ _ (.agg _ _ (zb rfl)) (.cons _ _ _ _ (.agg _ _ (zb rfl)) (.cons _ _ _ _ (.c _ _ (.ptr _ _ _ _ rfl)) .nil))) (.old 16 16 _ _ _ rfl rfl (.data_eq rfl) (.old 17 96 _ _ _ rfl rfl (.vars _ _ (.cons _ _ _ _ (.own _ _ rfl) .nil)) .nil)) rfl (zfU g _ l hs (Nat.le_of_lt hw) (by show(1:Int)<=2;decide) (by show(2:Int)<=3;decide)) ?_) ?_
   ·rintro H r ⟨rfl,rfl⟩ _ _
    exact⟨rfl,.inl rfl,rfl,rfl⟩
   generalize waitC (⟨2,ep,mj,wk,ov,ca,cf,ck,cc,cm⟩:Col) l=c'
   show ARet ..
   exact⟨[(16,16)],[(16,.data .thread l)],[(g).tv,(c').tv],.cons _ _ _ _ (.agg _ _ (zb rfl)) (.cons _ _ _ _ (.agg _ _ (zb rfl)) .nil),.old 16 16 _ _ _ rfl rfl (.data_eq rfl) .nil,rfl,rfl,rfl⟩
  ·subst e
   rw[zd7 hm (by show(1:Int)<=3;decide) (by show(3:Int)<=3;decide)]
   show AOb ((0:Int)<=3/\(3:Int)<7) _
   refine⟨by decide,?_⟩
   show ADCall ..
   refine .any (.tup [g.tv,(waitC (⟨3,ep,mj,wk,ov,ca,cf,ck,cc,cm⟩:Col) l).tv]) [(16,.data .thread l),(96,.vars [.own 16])] (.hand [(16,16),(96,17)] [(16,.data .thread l),(17,.vars [.own 16])] [g.tv,(⟨3,ep,mj,wk,ov,ca,cf,ck,cc,cm⟩:Col).tv,.c (.ptr 17 0 0)] _ (.cons _ _ _ _ (.agg _ _ (zb rfl)) (.cons _ _ _ _ (.agg _ _ (zb rfl)) (.cons _ _ _ _ (.c _ _ (.ptr _ _ _ _ rfl)) .nil))) (.old 16 16 _ _ _ rfl rfl (.data_eq rfl) (.old 17 96 _ _ _ rfl rfl (.vars _ _ (.cons _ _ _ _ (.own _ _ rfl) .nil)) .nil)) rfl (zfU g _ l hs (Nat.le_of_lt hw) (by show(1:Int)<=3;decide) (by show(3:Int)<=3;decide)) ?_) ?_
   ·rintro H r ⟨rfl,rfl⟩ _ _
    exact⟨rfl,.inl rfl,rfl,rfl⟩
   generalize waitC (⟨3,ep,mj,wk,ov,ca,cf,ck,cc,cm⟩:Col) l=c'
   show ARet ..
   exact⟨[(16,16)],[(16,.data .thread l)],[(g).tv,(c').tv],.cons _ _ _ _ (.agg _ _ (zb rfl)) (.cons _ _ _ _ (.agg _ _ (zb rfl)) .nil),.old 16 16 _ _ _ rfl rfl (.data_eq rfl) .nil,rfl,rfl,rfl⟩
  ·subst e
   rw[zwG hm rfl]
   show AOb ((0:Int)<=4/\(4:Int)<7) _
   refine⟨by decide,?_⟩
   show ADCall ..
   refine .mk _ _ ((zlu g _ hl hs hw)) rfl ?_
   show ARet ..
   exact⟨[(16,16)],[(16,.data .thread l)],[((zhY g ⟨4,ep,mj,wk,ov,ca,cf,ck,cc,cm⟩).1).tv,((zhY g ⟨4,ep,mj,wk,ov,ca,cf,ck,cc,cm⟩).2).tv],.cons _ _ _ _ (.agg _ _ (zb rfl)) (.cons _ _ _ _ (.agg _ _ (zb rfl)) .nil),.old 16 16 _ _ _ rfl rfl (.data_eq rfl) .nil,rfl,rfl,rfl⟩
  ·subst e
   rw[zvF hm rfl]
   show AOb ((0:Int)<=5/\(5:Int)<7) _
   refine⟨by decide,?_⟩
   show ADCall ..
   refine .mk _ _ ((zlY g _ hl hs hw)) rfl ?_
   show ARet ..
   exact⟨[(16,16)],[(16,.data .thread l)],[((zfa g ⟨5,ep,mj,wk,ov,ca,cf,ck,cc,cm⟩).1).tv,((zfa g ⟨5,ep,mj,wk,ov,ca,cf,ck,cc,cm⟩).2).tv],.cons _ _ _ _ (.agg _ _ (zb rfl)) (.cons _ _ _ _ (.agg _ _ (zb rfl)) .nil),.old 16 16 _ _ _ rfl rfl (.data_eq rfl) .nil,rfl,rfl,rfl⟩
  ·subst e
   rw[zvT hm rfl]
   show AOb ((0:Int)<=6/\(6:Int)<7) _
   refine⟨by decide,?_⟩
   show ADCall ..
   refine .mk _ _ ((zkr g _ hl hs (by omega))) rfl ?_
   show ARet ..
   exact⟨[(16,16)],[(16,.data .thread l)],[((ze8 g ⟨6,ep,mj,wk,ov,ca,cf,ck,cc,cm⟩).1).tv,((ze8 g ⟨6,ep,mj,wk,ov,ca,cf,ck,cc,cm⟩).2).tv],.cons _ _ _ _ (.agg _ _ (zb rfl)) (.cons _ _ _ _ (.agg _ _ (zb rfl)) .nil),.old 16 16 _ _ _ rfl rfl (.data_eq rfl) .nil,rfl,rfl,rfl⟩
theorem zs2 (w:Wd) (n:Int) (hF:w.Fit):Spec X 75 (rnH w) [.c (.ptr 16 0 0),.int n] (fun H r=>H=rnH (colW w)/\r = .int 0):=by
 refine zGO X_ok Tryz.f75 fun hb hH=>⟨rfl,?_⟩
 have hlt:w.h.light:=hF.light
 obtain⟨hs,hw,hl,hth,hfl,hlog⟩:=hF
 show ADCall ..
 refine .any (.tup [(zbN w.h w.c w.t).1.tv,(zbN w.h w.c w.t).2.tv]) [(17,.data .thread w.t)] (.hand [(17,16)] [(16,.data .thread w.t)] [w.h.tv,w.c.tv,.c (.own 16)] _ (.cons _ _ _ _ (.agg _ _ (zb rfl)) (.cons _ _ _ _ (.agg _ _ (zb rfl)) (.cons _ _ _ _ (.c _ _ (.own _ _ rfl)) .nil))) (.old 16 17 _ _ _ rfl rfl (.data_eq rfl) .nil) rfl (zoq w.h w.c w.t hlt hs hw) ?_) ?_
 ·rintro H r ⟨rfl,rfl⟩ _ _
  exact⟨rfl,.inl rfl,rfl,rfl⟩
 unfold colW
 generalize (zbN w.h w.c w.t).1=g'
 generalize (zbN w.h w.c w.t).2=c'
 show ARet ..
 exact⟨[(16,16),(17,17),(18,18)],rnH {h:=g',c:=c',t:=w.t,log:=w.log},[.int 0],.cons _ _ _ _ .same .nil,.old 16 16 _ _ _ rfl rfl (.vars _ _ (by repeat (first|exact .nil|refine .cons _ _ _ _ (.d _) ?_|refine .cons _ _ _ _ (.own _ _ rfl) ?_))) (.old 17 17 _ _ _ rfl rfl (.data_eq rfl) (.old 18 18 _ _ _ rfl rfl (.data_eq rfl) .nil)),rfl,rfl,rfl⟩
theorem zrL (w:Wd) (n:Int) (hF:w.Fit):Spec X 37 (rnH w) [.c (.ptr 16 0 0),.dagg (EK.enc .pair ⟨1,n⟩)] (fun H r=>H=rnH (colW w)/\r = .int 0):=by
 refine zGO X_ok Tryz.f37 fun hb hH=>⟨rfl,?_⟩
 refine zNO (by decide) ?_
 show ACall ..
 refine .hand [(16,16),(17,17),(18,18)] (rnH w) [.c (.ptr 16 0 0),.int n] _ (.cons _ _ _ _ (.c _ _ (.ptr _ _ _ _ rfl)) (.cons _ _ _ _ .same .nil)) (.old 16 16 _ _ _ rfl rfl (.vars _ _ (by repeat (first|exact .nil|refine .cons _ _ _ _ (.d _) ?_|refine .cons _ _ _ _ (.own _ _ rfl) ?_))) (.old 17 17 _ _ _ rfl rfl (.data_eq rfl) (.old 18 18 _ _ _ rfl rfl (.data_eq rfl) .nil))) rfl (zs2 w n hF) ?_
 rintro H r ⟨rfl,rfl⟩ _ _
 refine⟨rfl,.inl rfl,?_⟩
 generalize colW w=w'
 show ARet ..
 exact⟨[(16,16),(17,17),(18,18)],rnH (w'),[.int (0)],.cons _ _ _ _ .same .nil,.old 16 16 _ _ _ rfl rfl (.vars _ _ (by repeat (first|exact .nil|refine .cons _ _ _ _ (.d _) ?_|refine .cons _ _ _ _ (.own _ _ rfl) ?_))) (.old 17 17 _ _ _ rfl rfl (.data_eq rfl) (.old 18 18 _ _ _ rfl rfl (.data_eq rfl) .nil)),rfl,rfl,rfl⟩
theorem zuZ (w:Wd) (e:Pair) (hF:w.Fit):Spec X 37 (rnH w) [.c (.ptr 16 0 0),.dagg (EK.enc .pair e)] (fun H r=>(H=rnH (doW1 w e)\/H=rnL (doW1 w e))/\r = .int (doE1 w e)):=by
 obtain⟨k,n⟩:=e
 by_cases h1:k=1
 ·subst h1
  exact Spec.weaken (zrL w n hF) fun H r ⟨h,h'⟩=>⟨.inl h,h'⟩
 ·refine Spec.weaken (zne w ⟨k,n⟩ hF h1) fun H r ⟨h,h'⟩=>⟨h,h'⟩
abbrev wdT (w:Wd) (b:Nat):List CV:=(w.h.enc++w.c.enc).map CV.d++[.own b,.d (.sl .res w.log)]
theorem zuR (w:Wd) (e:Pair) (hF:w.Fit):Spec X 18 [] [w.tv,.dagg (EK.enc .pair e)] (Ret [(0,.data .thread (doW w e).t)] (.tup [.agg (wdT (doW w e) 0),.int (doWE w e)])):=by
 refine zGO X_ok Tryz.f18 fun hb hH=>⟨rfl,?_⟩
 show ACall ..
 refine .mk _ (zho w hF) fun H r ⟨eH,er⟩ _ _=>⟨.inl rfl,?_⟩
 subst eH er
 show ACall ..
 refine za (zjQ w (fun t ht=>(hF.th t ht).1) (fun _=>hF.flat)) rfl ?_
 unfold doW doWE
 cases hm:zQ w with
 |false=>
  rw[if_neg (by decide),if_neg (by decide)]
  refine zYE (by decide) ?_
  show ARet ..
  refine⟨[(192,0)],[(0,.data .thread (w).t)],[.agg (wdT (w) 0),.int (1)],.cons _ _ _ _ (.agg _ _ ?_) (.cons _ _ _ _ .same .nil),.old 0 192 _ _ _ rfl rfl (.data_eq rfl) .nil,rfl,rfl,rfl⟩
  repeat (first|exact .nil|refine .cons _ _ _ _ (.d _) ?_|refine .cons _ _ _ _ (.own _ _ rfl) ?_|refine .cons _ _ _ _ (.frz _ _ rfl) ?_)
 |true=>
  rw[if_pos rfl,if_pos rfl]
  refine zNO (by decide) ?_
  show ACall ..
  refine .hand [(256,16),(192,17),(193,18)] (rnH w) [.c (.ptr 16 0 0),.dagg (EK.enc .pair e)] _ (.cons _ _ _ _ (.c _ _ (.ptr _ _ _ _ rfl)) (.cons _ _ _ _ (.agg _ _ (zb rfl)) .nil)) (.old 16 256 _ _ _ rfl rfl (.vars _ _ (by repeat (first|exact .nil|refine .cons _ _ _ _ (.d _) ?_|refine .cons _ _ _ _ (.own _ _ rfl) ?_))) (.old 17 192 _ _ _ rfl rfl (.data_eq rfl) (.old 18 193 _ _ _ rfl rfl (.data_eq rfl) .nil))) rfl (zuZ w e hF) ?_
  rintro H r ⟨hH|hH,rfl⟩ _ _
  ·subst hH
   refine⟨rfl,.inl rfl,?_⟩
   generalize doW1 w e=w'
   generalize doE1 w e=e'
   show ARet ..
   refine⟨[(192,0)],[(0,.data .thread (w').t)],[.agg (wdT (w') 0),.int (e')],.cons _ _ _ _ (.agg _ _ ?_) (.cons _ _ _ _ .same .nil),.old 0 192 _ _ _ rfl rfl (.data_eq rfl) .nil,rfl,rfl,rfl⟩
   repeat (first|exact .nil|refine .cons _ _ _ _ (.d _) ?_|refine .cons _ _ _ _ (.own _ _ rfl) ?_|refine .cons _ _ _ _ (.frz _ _ rfl) ?_)
  ·subst hH
   refine⟨rfl,.inl rfl,?_⟩
   generalize doW1 w e=w'
   generalize doE1 w e=e'
   show ARet ..
   refine⟨[(192,0)],[(0,.data .thread (w').t)],[.agg (wdT (w') 0),.int (e')],.cons _ _ _ _ (.agg _ _ ?_) (.cons _ _ _ _ .same .nil),.old 0 192 _ _ _ rfl rfl (.data_eq rfl) .nil,rfl,rfl,rfl⟩
   repeat (first|exact .nil|refine .cons _ _ _ _ (.d _) ?_|refine .cons _ _ _ _ (.own _ _ rfl) ?_|refine .cons _ _ _ _ (.frz _ _ rfl) ?_)
theorem zsb (w:Wd) (l:List Pair) (hl:l.length<=20000) (hF:∀i,i<=l.length->(runW w (l.take i)).Fit):Spec X 23 [] [w.tv,.c (.d (.sl .pair l))] (Ret [(0,.data .thread (runW w l).t)] (.tup [.agg (wdT (runW w l) 0),.any])):=by
 refine zGO X_ok Tryz.f23 fun hb hH=>⟨rfl,?_⟩
 show ACall ..
 refine .mk _ (zho w (hF 0 (Nat.zero_le _))) fun H r ⟨eH,er⟩ _ _=>⟨.inl rfl,?_⟩
 subst eH er
 have hmn:(if (20000:Int)<(l.length:Int) then (20000:Int) else (l.length:Int))=(l.length:Int):=if_neg (by omega)
 show AOb ((0:Int)<=(if (20000:Int)<(l.length:Int) then (20000:Int) else (l.length:Int))/\(if (20000:Int)<(l.length:Int) then (20000:Int) else (l.length:Int))<=_) _
 refine⟨⟨by omega,by rw[hmn];exact Int.le_refl _⟩,?_⟩
 have hcut:l.take (if (20000:Int)<(l.length:Int) then (20000:Int) else (l.length:Int)).toNat=l:=by rw[hmn];exact List.take_length
 show ∃n,_
 refine⟨0,ALoop.inv (ι:={q:Nat×List Int // q.1<=l.length/\q.2.length=q.1}) (fun q=>⟨[(2,.c (.ptr 0 0 0)),(4,.c (.ptr 1 0 0)),(6,.c (.own 2)),(17,(.c (.d (.sl .pair l)))),(18,.int ((l.length:Int))),(19,.int ((q.1.1:Int)))],[(0,.vars (wdT (runW w (l.take q.1.1)) 3)),(1,.vars (List.replicate 18 .any)),(2,.data .int q.1.2),(3,.data .thread (runW w (l.take q.1.1)).t)],128⟩) (fun q=>l.length-q.1.1) ⟨(0,[]),Nat.zero_le _,rfl⟩ ?_ ?_⟩
 ·exact⟨[(32,0),(64,1),(192,3)],(by repeat' first|exact .nil|refine .cons _ _ _ ?_ ?_|exact .c _ _ (.ptr _ _ _ _ rfl)|exact .c _ _ (.nilown 2 .int rfl rfl)|exact zyw (k:=.pair) hcut|exact .int_eq hmn|exact .int_eq (congrArg (fun x:List Pair=>(x.length:Int)) hcut)|exact .same|exact .c _ _ (.own _ _ rfl)|exact .c _ _ (.ptr _ _ _ _ rfl)|exact .c _ _ (.frz _ _ rfl)|exact .any _),(by exact .old 0 32 _ _ _ rfl rfl (.vars _ _ (by repeat (first|exact .nil|refine .cons _ _ _ _ (.d _) ?_|refine .cons _ _ _ _ (.own _ _ rfl) ?_|refine .cons _ _ _ _ (.frz _ _ rfl) ?_))) (.old 1 64 _ _ _ rfl rfl (.vars _ _ (by repeat (first|exact .nil|refine .cons _ _ _ _ (.any _) ?_))) (.new 2 .int _ rfl (.old 3 192 _ _ _ rfl rfl (.data_eq rfl) .nil)))),(by rfl)⟩
 rintro⟨⟨i,es⟩,hi,he⟩
 show ABr (decide ((i:Int)<(l.length:Int))) _ _
 refine⟨fun h=>?_,fun h=>?_⟩
 ·have hlt:i<l.length:=by simpa using h
  have wi:IntKind.i64.wrap ((i:Int)+1)=((i+1:Nat):Int):=zad (i:=i) (by unfold zE;omega)
  show AOb ..
  refine⟨by exact⟨Int.natCast_nonneg _,Int.ofNat_lt.2 hlt⟩,?_⟩
  show ACall ..
  refine .frz [3] [(0,.vars ((runW w (l.take i)).cells.map .d))] [(runW w (l.take i)).tv,.dagg (EK.enc .pair (l.getD i default))] _ rfl (.vars 0 _ _ _ rfl rfl ?_ .nil) (.cons _ _ _ _ (.agg _ _ ?_) (.cons _ _ _ _ (.agg _ _ ?_) .nil)) rfl (zuR (runW w (l.take i)) (l.getD i default) (hF i (Nat.le_of_lt hlt))) ?_
  ·repeat (first|exact .nil|refine .cons _ _ _ _ (.same _) ?_|refine .cons _ _ _ _ (.frz _ _ rfl) ?_)
  ·repeat (first|exact .nil|refine .cons _ _ _ _ (.same _) ?_|refine .cons _ _ _ _ (.frz _ _ rfl) ?_)
  ·repeat (first|exact .nil|refine .cons _ _ _ _ (.same _) ?_)
  rintro H r ⟨rfl,rfl⟩ _ _
  show AOb (es.length+1<=zk) _
  refine⟨by have:es.length=i:=he;unfold zk;omega,?_⟩
  have hn:=zn8 w hlt
  generalize doWE (runW w (l.take i)) (l.getD i default)=x
  rw[←hn]
  have hE:(es++[x]).length=i+1:=by rw[List.length_append,show es.length=i from he];rfl
  show ARound ..
  exact⟨⟨(i+1,es++[x]),hlt,hE⟩,(by dsimp only;omega),[(0,0),(1,1),(736,2),(352,3)],(by repeat' first|exact .nil|refine .cons _ _ _ ?_ ?_|exact .c _ _ (.ptr _ _ _ _ rfl)|exact .int_eq wi|exact .same|exact .c _ _ (.own _ _ rfl)|exact .c _ _ (.ptr _ _ _ _ rfl)|exact .c _ _ (.frz _ _ rfl)|exact .any _),(by exact .old 0 0 _ _ _ rfl rfl (.vars _ _ (by repeat (first|exact .nil|refine .cons _ _ _ _ (.d _) ?_|refine .cons _ _ _ _ (.own _ _ rfl) ?_))) (.old 1 1 _ _ _ rfl rfl (.vars _ _ (by repeat (first|exact .nil|refine .cons _ _ _ _ (.any _) ?_))) (.old 2 736 _ _ _ rfl rfl (.data_eq rfl) (.old 3 352 _ _ _ rfl rfl (.data_eq rfl) .nil)))),(by rfl)⟩
 ·have hie:i=l.length:=by simp at h;omega
  have hm:runW w l=runW w (l.take i):=by rw[hie,List.take_length]
  rw[hm]
  generalize runW w (l.take i)=w'
  show ARet ..
  refine⟨[(3,0)],[(0,.data .thread w'.t)],[.agg (wdT w' 0),.any],.cons _ _ _ _ (.agg _ _ ?_) (.cons _ _ _ _ (.any _) .nil),.old 0 3 _ _ _ rfl rfl (.data_eq rfl) .nil,rfl,rfl,rfl⟩
  repeat (first|exact .nil|refine .cons _ _ _ _ (.d _) ?_|refine .cons _ _ _ _ (.own _ _ rfl) ?_)
end Go.Abs
namespace Go.Abs
set_option maxRecDepth 8000
def ZW (g:Hp):Prop:=∀u,16<=u->zf g u≠0->∃a,headE g a=0/\a<=u/\u<a+ze g.pages a
def NF (g:Hp):Prop:=∀i,i<g.pages.length->(g.pages.getD i default).kind=1->∃s∈startsOn g.pages i,s ∉ g.free.flat
structure HZ (L:Nat) (g:Hp):Prop where
 z:ZW g
 n:NF g
 l:g.w.length=L
theorem ZW.of {g k:Hp} (h:ZW g) (ho:∀a,headE g a=0->headE k a=0/\ze k.pages a=ze g.pages a)
  (hw:∀u,16<=u->zf k u≠0->zf g u≠0\/∃a,headE k a=0/\a<=u/\u<a+ze k.pages a):ZW k:=fun u hu hn=>by
 rcases hw u hu hn with p|p
 ·obtain⟨a,a1,a2,a3⟩:=h u hu p
  obtain⟨b1,b2⟩:=ho a a1
  exact⟨a,b1,a2,by rw[b2];exact a3⟩
 ·exact p
theorem NF.same {g k:Hp} (h:NF g) (hp:k.pages=g.pages) (hf:k.free=g.free):NF k:=fun i hi hk=>by
 rw[hp]at hi hk ⊢
 rw[hf]
 exact h i hi hk
theorem HZ.put {L:Nat} {g:Hp} {a:Int} {x:Hd} (h:HZ L g) (hm:zx g []=true) (ha:headE g a=0) (p:PutOk g a x):HZ L (zcc g a x.word):=by
 refine⟨h.z.of (fun u hu=>⟨by rw[(zgK p u).1];exact hu,rfl⟩) fun u hu hn=>?_,h.n.same rfl rfl,by show(g.w.set _ _).length=L;rw[List.length_set];exact h.l⟩
 by_cases e:u=a
 ·subst e
  exact .inr ⟨u,by rw[(zgK p u).1];exact ha,Int.le_refl _,by have:=(za4 ha).2.2.1;show u<u+ze g.pages u;omega⟩
 ·left
  intro k
  apply hn
  show at0 (g.w.set (a-16).toNat x.word) (u-16).toNat=0
  have h16:=(za4 ha).2.1
  unfold at0
  rw[List.getD_eq_getElem?_getD,List.getElem?_set,if_neg (by omega),←List.getD_eq_getElem?_getD]
  exact k
theorem HZ.shade {L:Nat} {g:Hp} (h:HZ L g) (hm:zx g []=true) (c:Col) (a:Int):HZ L (zH g c a):=by
 unfold zH
 by_cases e:atK g c a=1
 ·obtain⟨m1,m2,m3⟩:=zcl e
  rw[decide_eq_true e]
  show HZ L (zgx g a (zhX g c a))
  unfold zgx
  rw[decide_eq_true m3]
  exact h.put hm m1 m2
 ·rw[decide_eq_false e];exact h
theorem HZ.black {L:Nat} {g:Hp} (h:HZ L g) (hm:zx g []=true) (c:Col) (a:Int):HZ L (zak g c a):=by
 unfold zak
 by_cases e:atK g c a=2
 ·obtain⟨m1,m2,m3⟩:=zci e
  rw[decide_eq_true e]
  show HZ L (zgx g a (zhK g a))
  unfold zgx
  rw[decide_eq_true m3]
  exact h.put hm m1 m2
 ·rw[decide_eq_false e];exact h
theorem HZ.card {L:Nat} {g:Hp} (h:HZ L g) (i:Int) (b:Bool):HZ L (zcO g i b):=
 ⟨h.z.of (fun u hu=>⟨by rw[zen];exact hu,rfl⟩) fun u _ hn=>.inl hn,h.n.same rfl rfl,h.l⟩
theorem HZ.write {L:Nat} {g:Hp} {a f v:Int} (h:HZ L g) (ha:headE g a=0) (hf:0<=f/\f<(headH g a).n):HZ L (zf2 g (a+1+f) v):=by
 obtain⟨k1,k2,k3⟩:=zgU (v:=v) ha hf
 refine⟨h.z.of (fun u hu=>⟨by rw[k2];exact hu,rfl⟩) fun u hu hn=>?_,h.n.same rfl rfl,by show(g.w.set _ _).length=L;rw[List.length_set];exact h.l⟩
 rw[zmp ha hf hu]at hn
 split at hn
 ·rename_i e
  have:=(zaj ha).2.2.1
  exact .inr ⟨a,by rw[k2];exact ha,by omega,by show u<a+ze g.pages a;omega⟩
 ·exact .inl hn
theorem znH {l:List Page} {i:Nat} (hk:(l.getD i default).kind=1):startsOn l i=zem (l.getD i default) i:=by
 unfold startsOn zem zD
 rw[if_neg (by omega),if_pos hk,List.map_map]
 rfl
theorem zjz (p:Page) (i:Int) (h:0<=p.arg/\p.arg<=2):(zem p i).Nodup:=by
 unfold zem
 refine List.Pairwise.map _ (fun a b hab=>?_) List.pairwise_lt_range
 have hW:1<=zaR p.arg:=by
  have:p.arg=0\/p.arg=1\/p.arg=2:=by omega
  rcases this with e|e|e<;>rw[e]<;>decide
 have:(a:Int)*zaR p.arg<(b:Int)*zaR p.arg:=Int.mul_lt_mul_of_pos_right (by omega) (by omega)
 omega
theorem zzG {g:Hp} {cs:List Lists} (hm:zx g cs=true) {i:Nat} (hi:i<g.pages.length) (hk:(g.pages.getD i default).kind=1) (hne:((zeR g (i:Int)).length:Int)≠zfg (g.pages.getD i default).arg) :
  ∃s∈startsOn g.pages i,s ∉ g.free.flat:=by
 obtain⟨m1,m2,m3,m4⟩:=zai hm
 have hmp:=(zl m1).2.1
 have hd:=zeX hmp hi hk
 have hok:=(zab hmp).1 i hi
 have hc:=hok.1 hk
 apply Classical.byContradiction
 intro hall
 have hall:∀s∈startsOn g.pages i,s∈g.free.flat:=fun s hs=>Classical.byContradiction fun q=>hall ⟨s,hs,q⟩
 have e1:=znH (i:=i) hk
 have hlen:((zem (g.pages.getD i default) i).length:Int)=zfg (g.pages.getD i default).arg:=by
  unfold zem;rw[List.length_map,List.length_range];rcases zhV hc with k|k|k<;>omega
 have hsub:∀s∈zem (g.pages.getD i default) i,s∈zeR g (i:Int):=fun s hs=>by
  rw[←e1]at hs
  have hin:=zcE hok hs
  have hdiv:s / 16-1=(i:Int):=by omega
  obtain⟨d,d0,d2,hx⟩:=zbq.1 (hall s hs)
  obtain⟨_,r2,_⟩:=(of_decide_eq_true (zF.1 (m2 g.free (List.mem_cons_self ..)) _ d0 d2 s hx):0<ze g.pages s/\zO g s=⟨1,d⟩/\_)
  have hpa:zO g s=g.pages.getD i default:=by
   unfold zO
   rw[hdiv];rfl
  rw[hpa]at r2
  rw[zla,List.mem_filter,zjt,decide_eq_true_eq]
  refine⟨?_,hdiv⟩
  show s∈g.free.at_ (g.pages.getD i default).arg
  rw[r2]
  exact hx
 have h1:=zfK (zjz _ _ hc) hsub
 have h2:=(zpB hm (i:=(i:Int)) (by omega) hd hk).1
 have h2:((zeR g (i:Int)).length:Int)<=zfg (g.pages.getD i default).arg:=h2
 omega
theorem zqg:∀(L w:List Int) (j:Nat),at0 (zcW w L) j≠0->at0 w j≠0
 |[],_,_,h=>h
 |a::L,w,j,h=>by
  have h1:=zqg L _ j h
  intro k
  apply h1
  unfold at0 at k ⊢
  rw[List.getD_eq_getElem?_getD]at k ⊢
  rw[List.getElem?_set]
  split
  ·split<;>rfl
  ·exact k
theorem zxV {g:Hp} {k u:Int} (h:zf (zL g k) u≠0):zf g u≠0:=by
 cases hf:zaO g.pages 1 with
 |none=>rw[(zaP hf k).1]at h;exact h
 |some i=>rw[(zaQ hf k).1]at h;exact zqg _ _ _ h
theorem zzf {g:Hp} {C:Lists} {k u:Int} (h:zf (refG g C k) u≠0):zf g u≠0:=by
 unfold refG at h
 split at h
 ·exact zxV h
 ·exact h
theorem zyH {g:Hp} {C:Lists} {x:Hd} {u:Int} (h:zf (zeJ g C x) u≠0):zf g u≠0:=by
 unfold zeJ at h
 split at h
 ·unfold zaK at h
  split at h
  ·exact h
  ·exact h
 ·by_cases he:zS g C (clsOf x.n)=0
  ·have:=(zkx he).2
   unfold zf at h
   rw[this]at h
   exact zzf h
  ·rw[(zjf he).1]at h;exact h
theorem zvc {g k:Hp} (hs:zC g=true) (hw:k.w.length=g.w.length) (hp:zar k.pages=true) (hl:k.pages.length=g.pages.length) (hc:k.cards.length=g.cards.length):zC k=true:=by
 unfold zC zbo at hs ⊢
 rw[hw,hl,hc]
 simp only[Bool.and_eq_true]at hs ⊢
 exact⟨hs.1,hp,hs.2.2⟩
theorem zpA {g:Hp} {C:Lists} {x:Hd} (he:zaw g C x=0):(clsOf x.n=3->zbZ g x.n=0)/\(clsOf x.n≠3->zS g C (clsOf x.n)=0):=by
 obtain⟨_,_,_,_,hp,hu,hc⟩:=zeH he
 have he' : (if clsOf x.n=3 then zbZ g x.n else zS g C (clsOf x.n))=0:=by
  unfold zaw at he
  split at he
  ·cases he
  ·rw[if_neg (fun k=>k hc)]at he
   exact he
 exact⟨fun h=>by rw[if_pos h]at he';exact he',fun h=>by rw[if_neg h]at he';exact he'⟩
theorem zr5 {g:Hp} {C:Lists} {cs:List Lists} {x:Hd} (hw:zq g (C::cs)=true) (he:zaw g C x=0):zC (zeJ g C x)=true:=by
 obtain⟨g1,g2,g3,gm,hp,hu,hc⟩:=zeH he
 obtain⟨c1,c2,c3,c4,c5⟩:=zka hc
 obtain⟨t1,t2⟩:=zpA he
 have hs:=zA (zW hw)
 by_cases h3:clsOf x.n=3
 ·refine zvc hs g3 ?_ g2 ?_
  ·unfold zeJ
   rw[if_pos h3]
   cases hf:zcu g x.n with
   |none=>rw[(zev hf).1];exact(zl hs).2.1
   |some i=>
    rw[(zef hf).1]
    obtain⟨r1,r2,r3⟩:=c5 h3
    unfold zcu at hf
    obtain⟨m,em⟩:∃m:Nat,zaV x.n=(m:Int):=⟨(zaV x.n).toNat,by omega⟩
    rw[em]at hf ⊢
    have hf:zaO g.pages m=some i:=hf
    exact zki (zl hs).2.1 (za7 hf).1 (by omega) (by omega)
  ·unfold zeJ
   rw[if_pos h3]
   unfold zaK
   split<;>rfl
 ·have e0:=t2 h3
  have hr:zC (refG g C (clsOf x.n))=true:=by
   unfold refG
   split
   ·exact zA (zW (zie hw ⟨c3,by omega⟩).1)
   ·exact hs
  have e:zeJ g C x=zZ g C (clsOf x.n):=by unfold zeJ;rw[if_neg h3]
  rw[e]
  unfold zZ
  rw[if_pos e0]
  split
  ·exact hr
  ·exact hs
theorem zx4 {g:Hp} {C:Lists} {cs:List Lists} {x:Hd} (hw:zq g (C::cs)=true) (he:zaw g C x=0) {u:Int} (hu:16<=u) (h:zf (ze5 g C x) u≠0) :
  zf g u≠0\/(zfD g C x<=u/\u<zfD g C x+ze (ze5 g C x).pages (zfD g C x)):=by
 obtain⟨t1,t2,t3⟩:=zgY he
 have hs:=zr5 hw he
 obtain⟨g1,_⟩:=zeH he
 rw[t1]at h ⊢
 rw[t3]
 rw[zew hs g1 hu]at h
 show _\/(_/\u<zjn g C x+ze (zeJ g C x).pages (zjn g C x))
 have hr:=zcn (zeJ g C x).pages (zjn g C x)
 split at h
 ·exact .inr ⟨by omega,by omega⟩
 ·split at h
  ·exact absurd rfl h
  ·exact .inl (zyH h)
theorem zgb {l m:List Page} {i:Nat} (h:l.getD i default=m.getD i default):startsOn l i=startsOn m i:=by
 unfold startsOn;rw[h]
theorem NF.less {g k:Hp} (h:NF g) (hp:k.pages=g.pages) (hf:∀y∈k.free.flat,y∈g.free.flat):NF k:=fun i hi hk=>by
 rw[hp]at hi hk ⊢
 obtain⟨s,s1,s2⟩:=h i hi hk
 exact⟨s,s1,fun q=>s2 (hf s q)⟩
theorem zpp {l:Lists} {k:Int} (hk:0<=k/\k<=2) {X:List Int} (h:∀y∈X,y∈l.at_ k):∀y∈(l.set_ k X).flat,y∈l.flat:=fun y hy=>by
 obtain⟨d,d0,d2,hx⟩:=zbq.1 hy
 rw[ze9 hk ⟨d0,d2⟩]at hx
 by_cases e:d=k
 ·rw[if_pos e]at hx
  exact zbq.2 ⟨k,hk.1,hk.2,h y hx⟩
 ·rw[if_neg e]at hx
  exact zbq.2 ⟨d,d0,d2,hx⟩
theorem NF.got {g:Hp} {C:Lists} {cs:List Lists} {x:Hd} (h:NF g) (hw:zq g (C::cs)=true) (he:zaw g C x=0):NF (zeJ g C x):=by
 obtain⟨g1,g2,g3,gm,hp,hu,hc⟩:=zeH he
 obtain⟨c1,c2,c3,c4,c5⟩:=zka hc
 obtain⟨t1,t2⟩:=zpA he
 have hm:=zW hw
 have hs:=zA hm
 unfold zeJ
 by_cases h3:clsOf x.n=3
 ·rw[if_pos h3]
  cases hf:zcu g x.n with
  |none=>rw[(zev hf).1];exact h
  |some i=>
   rw[(zef hf).1]
   obtain⟨r1,r2,r3⟩:=c5 h3
   unfold zcu at hf
   obtain⟨m,em⟩:∃m:Nat,zaV x.n=(m:Int):=⟨(zaV x.n).toNat,by omega⟩
   rw[em]at hf ⊢
   have hf:zaO g.pages m=some i:=hf
   obtain⟨hfr,_⟩:=za7 hf
   have hXl:((⟨2,(m:Int)⟩:Page)::List.replicate (m-1) ⟨3,0⟩).length=m:=by simp;omega
   intro j hj hk
   have hg:=zf4 hXl hfr j
   have hj:j<(zbk g.pages i (⟨2,(m:Int)⟩::List.replicate (m-1) ⟨3,0⟩)).length:=hj
   have hk:((zbk g.pages i (⟨2,(m:Int)⟩::List.replicate (m-1) ⟨3,0⟩)).getD j default).kind=1:=hk
   rw[zc0 hXl hfr]at hj
   show ∃s∈startsOn (zbk g.pages i (⟨2,(m:Int)⟩::List.replicate (m-1) ⟨3,0⟩)) j,s ∉ g.free.flat
   by_cases q:i<=j/\j<i+m
   ·rw[hg,if_pos q]at hk
    exfalso
    by_cases e:j-i=0
    ·rw[e]at hk;exact absurd hk (by show ¬(2:Int)=1;decide)
    ·rw[show j-i=(j-i-1)+1 by omega,List.getD_cons_succ,List.getD_eq_getElem?_getD,List.getElem?_replicate]at hk
     rw[if_pos (by omega)]at hk
     exact absurd hk (by decide)
   ·rw[if_neg q]at hg
    rw[hg]at hk
    rw[zgb hg]
    exact h j hj hk
 ·rw[if_neg h3]
  have hk:0<=clsOf x.n/\clsOf x.n<=2:=⟨c3,by omega⟩
  have e0:=t2 h3
  generalize clsOf x.n=k at *
  unfold zZ
  rw[if_pos e0]
  split
  ·rename_i h1
   have hL:zhU g C k=((refG g C k).free.at_ k).take (leftOf ((refG g C k).free.at_ k).length 2):=by unfold zhU;rw[if_pos h1]
   rw[hL]
   by_cases h2:g.free.at_ k=[]
   ·have hR:refG g C k=zL g k:=by unfold refG;rw[if_pos ⟨h1,h2⟩]
    rw[hR]
    unfold zS at e0
    rw[if_pos ⟨h1,h2⟩]at e0
    cases hf:zaO g.pages 1 with
    |none=>rw[(zaP hf k).2]at e0;cases e0
    |some i=>
     obtain⟨hfr,hil⟩:=za7 hf
     have hP:=(zaQ hf k).1
     rw[h2,List.nil_append]at hP
     obtain⟨P,eP⟩:∃P,P=zbk g.pages i [⟨1,k⟩]:=⟨_,rfl⟩
     have hl2:=zgM (k:=k) hk hil
     rw[←eP]at hP hl2
     have hp' : zar P=true:=by rw[eP];exact zhA (zl hs).2.1 hfr hk
     have hlen' : P.length=g.pages.length:=by rw[eP];exact zc0 rfl hfr
     have hget:∀j,P.getD j default=if i<=j/\j<i+1 then ([⟨1,k⟩]:List Page).getD (j-i) default else g.pages.getD j default:=fun j=>by
      rw[eP];exact zf4 (n:=1) (X:=[⟨1,k⟩]) rfl hfr j
     have hgi:P.getD i default=⟨1,k⟩:=by rw[hget,if_pos ⟨Nat.le_refl _,by omega⟩,Nat.sub_self];rfl
     have hpi:zbv (P.getD i default):=(zab hp').1 i (by rw[hlen'];exact hil)
     have hin:∀s∈startsOn P i,16*((i:Int)+1)<=s/\s<16*((i:Int)+1)+16:=fun s hs=>zcE hpi hs
     have hnd:(startsOn P i).Nodup:=by
      rw[znH (by rw[hgi]),hgi]
      exact zjz _ _ hk
     have hold:∀(d:Int),0<=d->d<=2->∀s∈g.free.at_ d,s / 16-1≠(i:Int):=fun d d0 d2 s hs e=>by
      have:=zfL hm (List.mem_cons_self ..) ⟨d0,d2⟩ hs
      exact zoR hfr this.1 ⟨by omega,by omega⟩
     rw[hP]
     intro j hj hkj
     have hj:j<P.length:=hj
     have hkj:(P.getD j default).kind=1:=hkj
     show ∃s∈startsOn P j,s ∉ ((g.free.set_ k (startsOn P i).reverse).set_ k (((g.free.set_ k (startsOn P i).reverse).at_ k).take (leftOf ((g.free.set_ k (startsOn P i).reverse).at_ k).length 2))).flat
     rw[za5 hk,set_set]
     have hfl:∀y,y∈(g.free.set_ k ((startsOn P i).reverse.take (leftOf (startsOn P i).reverse.length 2))).flat->y∈(startsOn P i).reverse.take (leftOf (startsOn P i).reverse.length 2)\/y∈g.free.flat:=fun y hy=>by
      obtain⟨d,d0,d2,hx⟩:=zbq.1 hy
      rw[ze9 hk ⟨d0,d2⟩]at hx
      by_cases e:d=k
      ·rw[if_pos e]at hx;exact .inl hx
      ·rw[if_neg e]at hx;exact .inr (zbq.2 ⟨d,d0,d2,hx⟩)
     by_cases e:j=i
     ·subst e
      have hrl:(startsOn P j).reverse.length=(startsOn P j).length:=List.length_reverse
      have hrn:(startsOn P j).reverse.Nodup:=(List.reverse_perm _).nodup_iff.2 hnd
      obtain⟨R,hR⟩:∃R,R=(startsOn P j).reverse:=⟨_,rfl⟩
      rw[←hR]at hfl hrl hrn ⊢
      have hRl:R.length-1<R.length:=by omega
      refine⟨R[R.length-1],by rw[←List.mem_reverse,←hR];exact List.getElem_mem _,fun hy=>?_⟩
      rcases hfl _ hy with q|q
      ·obtain⟨a,ha,ea⟩:=List.mem_iff_getElem.1 q
       rw[List.length_take]at ha
       rw[List.getElem_take]at ea
       have hlo:leftOf R.length 2=R.length-2:=rfl
       exact List.pairwise_iff_getElem.1 hrn a (R.length-1) (by omega) hRl (by omega) ea
      ·obtain⟨d,d0,d2,hx⟩:=zbq.1 q
       have hmem:R[R.length-1]∈startsOn P j:=by rw[←List.mem_reverse,←hR];exact List.getElem_mem _
       have:=hin _ hmem
       exact hold d d0 d2 _ hx (by omega)
     ·have hgj:P.getD j default=g.pages.getD j default:=by rw[hget,if_neg (by omega)]
      rw[hgj]at hkj
      obtain⟨s,s1,s2⟩:=h j (by omega) hkj
      rw[zgb hgj]
      refine⟨s,s1,fun hy=>?_⟩
      rcases hfl _ hy with q|q
      ·have q:=hin s (List.mem_reverse.1 (List.mem_of_mem_take q))
       have:=zcE ((zab (zl hs).2.1).1 j (by omega)) s1
       omega
      ·exact s2 q
   ·have hR:refG g C k=g:=by unfold refG;rw[if_neg (fun q=>h2 q.2)]
    rw[hR]
    exact h.less rfl (zpp hk fun y hy=>List.mem_of_mem_take hy)
  ·exact h
theorem HZ.take {L:Nat} {g:Hp} {C:Lists} {cs:List Lists} {x:Hd} (h:HZ L g) (hw:zq g (C::cs)=true) (he:zaw g C x=0):HZ L (ze5 g C x):=by
 have t:=(zjD hw he).2
 refine⟨h.z.of (fun u hu=>⟨?_,t.room u hu⟩) fun u hu hn=>?_,?_,by rw[t.wlen];exact h.l⟩
 ·by_cases e:u=zfD g C x
  ·rw[e];exact t.self.1
  ·rw[(t.head u e).1];exact hu
 ·rcases zx4 hw he hu hn with p|⟨p1,p2⟩
  ·exact .inl p
  ·exact .inr ⟨_,t.self.1,p1,p2⟩
 ·rw[(zgY he).1]
  exact(h.n.got hw he).same rfl rfl
theorem zub {g:Hp} {cs:List Lists} (hm:zx g cs=true) {i:Nat} (hi:i<g.pages.length) (hk:(g.pages.getD i default).kind=1) {P:Nat->Prop}
  (h:∀j,j<g.pages.length->P j->j≠i->(g.pages.getD j default).kind=1->∃s∈startsOn g.pages j,s ∉ g.free.flat) :
  ∀j,j<(zcb g (i:Int)).pages.length->(P j\/j=i)->((zcb g (i:Int)).pages.getD j default).kind=1->∃s∈startsOn (zcb g (i:Int)).pages j,s ∉ (zcb g (i:Int)).free.flat:=by
 have hmp:=(zl (zA hm)).2.1
 have hd:=zeX hmp hi hk
 have hc:=((zab hmp).1 i hi).1 hk
 unfold zcb
 split
 ·intro j hj hP hkj
  have hj:j<(zam g.pages i).length:=hj
  rw[hd.len]at hj
  have hkj:((zam g.pages i).getD j default).kind=1:=hkj
  show ∃s∈startsOn (zam g.pages i) j,s ∉ (g.free.set_ (g.pages.getD i default).arg (zdP g (i:Int))).flat
  have hg:=hd.get j
  by_cases q:i<=j/\j<i+sizeP (g.pages.getD i default)
  ·rw[hg,if_pos q]at hkj;exact absurd hkj (by show ¬(0:Int)=1;decide)
  ·rw[if_neg q]at hg
   rw[hg]at hkj
   have hne:j≠i:=fun e=>q ⟨by omega,by have:=hd.all.2.1;omega⟩
   obtain⟨s,s1,s2⟩:=h j hj (hP.resolve_right hne) hne hkj
   rw[zgb hg]
   refine⟨s,s1,fun y=>s2 (zpp hc (fun z hz=>?_) s y)⟩
   rw[zi1]at hz
   exact(List.mem_filter.1 hz).1
 ·rename_i hn
  intro j hj hP hkj
  by_cases e:j=i
  ·subst e;exact zzG hm hi hk hn
  ·exact h j hj (hP.resolve_right e) e hkj
theorem zyP {g:Hp} {a:Int} (h:headE g a=0):(zdU g a).w=zbm g a:=by
 unfold zdU
 rw[if_pos h]
 split
 ·rfl
 ·unfold zcb
  split<;>rfl
theorem HZ.free {L:Nat} {g:Hp} {cs:List Lists} {a:Int} (h:HZ L g) (hm:zx g cs=true) (ha:headE g a=0):HZ L (zdU g a):=by
 have f:=zny hm ha
 obtain⟨hn0,hd⟩:=zdj ha
 have hmp:=(zl (zA hm)).2.1
 refine⟨?_,?_,by rw[f.wlen];exact h.l⟩
 ·intro u hu hn
  have e:zf (zdU g a) u=if a<=u/\u<a+ze g.pages a then 0 else zf g u:=by
   unfold zf
   rw[zyP ha]
   exact zkf ha hu g.pages g.free g.cards
  rw[e]at hn
  split at hn
  ·exact absurd rfl hn
  ·rename_i q
   obtain⟨b,b1,b2,b3⟩:=h.z u hu hn
   have hne:b≠a:=fun e=>q (e▸⟨b2,b3⟩)
   have hb:headE (zdU g a) b=0:=(f.head b).1.2 ⟨b1,hne⟩
   exact⟨b,hb,b2,by rw[f.room b (zU hb).2.1];exact b3⟩
 ·unfold zdU
  rw[if_pos ha]
  split
  ·intro j hj hk
   have hj:j<(zam g.pages (pgI a).toNat).length:=hj
   rw[hd.len]at hj
   have hk:((zam g.pages (pgI a).toNat).getD j default).kind=1:=hk
   show ∃s∈startsOn (zam g.pages (pgI a).toNat) j,s ∉ g.free.flat
   have hg:=hd.get j
   by_cases q:(pgI a).toNat<=j/\j<(pgI a).toNat+sizeP (g.pages.getD (pgI a).toNat default)
   ·rw[hg,if_pos q]at hk;exact absurd hk (by show ¬(0:Int)=1;decide)
   ·rw[if_neg q]at hg
    rw[hg]at hk
    rw[zgb hg]
    exact h.n j hj hk
  ·rename_i hk
   have hk1:=hd.kind.resolve_right hk
   have fp:=zmA hm ha hk1
   have ei:((pgI a).toNat:Int)=pgI a:=by omega
   have hc:=((zab hmp).1 _ hd.lt).1 hk1
   have key:=zub (g:=zc3 g a) fp.may (i:=(pgI a).toNat) hd.lt hk1 (P:=fun _=>True) fun j hj _ hne hkj=>by
    obtain⟨s,s1,s2⟩:=h.n j hj hkj
    refine⟨s,s1,fun y=>?_⟩
    have y:s∈(g.free.set_ (g.pages.getD (pgI a).toNat default).arg (g.free.at_ (g.pages.getD (pgI a).toNat default).arg++[a])).flat:=y
    rcases List.mem_cons.1 ((zqb hc).mem_iff.1 y) with q|q
    ·have:=zcE ((zab hmp).1 j hj) s1
     unfold pgI at hne ei
     omega
    ·exact s2 q
   rw[ei]at key
   exact fun j hj hk=>key j hj (.inl trivial) hk
theorem zrm {g:Hp} {cs:List Lists} (hm:zx g cs=true):∀n,n<=g.pages.length->∀j,j<(zdS g n).pages.length->j<n->((zdS g n).pages.getD j default).kind=1->∃s∈startsOn (zdS g n).pages j,s ∉ (zdS g n).free.flat
 |0,_=>fun j _ h=>absurd h (Nat.not_lt_zero j)
 |n+1,hn=>by
  have ih:=zrm hm n (by omega)
  have b:=zfV hm n (by omega)
  show ∀j,j<(zhJ (zdS g n) n).pages.length->j<n+1->((zhJ (zdS g n) n).pages.getD j default).kind=1->∃s∈startsOn (zhJ (zdS g n) n).pages j,s ∉ (zhJ (zdS g n) n).free.flat
  unfold zhJ
  split
  ·rename_i hk
   have key:=zub b.may (i:=n) (by rw[b.plen];omega) hk (P:=fun j=>j<n) fun j hj hP _ hkj=>ih j hj hP hkj
   exact fun j hj hlt hkj=>key j hj (by omega) hkj
  ·rename_i hk
   intro j hj hlt hkj
   by_cases e:j=n
   ·subst e;exact absurd hkj hk
   ·exact ih j hj (by omega) hkj
theorem HZ.flush {L:Nat} {g:Hp} {C:Lists} {cs:List Lists} (h:HZ L g) (hw:zq g (C::cs)=true):HZ L (zda g C):=by
 obtain⟨f1,o,fw⟩:=zg2 hw
 refine⟨h.z.of (fun u hu=>⟨by rw[o.headE];exact hu,o.room u hu⟩) fun u hu hn=>.inl ?_,?_,by rw[fw];exact h.l⟩
 ·unfold zf at hn ⊢
  rw[fw]at hn
  exact hn
 ·intro j hj hk
  have hj' : j<g.pages.length:=by rw[←o.plen];exact hj
  have hm:=zW hw
  have hC:zx g [C]=true:=by
   cases hC:zx g [C] with
   |true=>rfl
   |false=>
    exfalso
    have e:zda g C=Hp.zero:=by unfold zda;rw[hC];rfl
    rw[e]at hj
    exact absurd hj (Nat.not_lt_zero j)
  have e:zda g C=zdS (zfF g C) g.pages.length:=by unfold zda;rw[if_pos hC]
  rw[e]at hj hk ⊢
  exact zrm (zlK hm).1 g.pages.length (Nat.le_refl _) j hj hj' hk
theorem HZ.cyc {L:Nat} {g k:Hp} {c d:Col} {l:List Thread} (h:HZ L g) (s:CStep g c l k d) {cs:List Lists} (hw:zq g cs=true):HZ L k:=by
 have hm0:=zbI hw
 cases s
 case scan hm hp s=>
  have met:∀v,HZ L (zax g c v).1:=fun v=>by
   rcases zbJ g c v with⟨_,e⟩|⟨_,e⟩<;>rw[e]
   ·exact h.shade hm0 c v
   ·exact h
  cases s
  case clean=>exact h.card _ _
  case last v hv=>exact met v
  case more v hv=>exact met v
  case done=>
   split
   ·exact h.card _ _
   ·exact h
  all_goals exact h
 case trace hm hp s=>
  cases s
  case last v hv=>exact(h.shade hm0 c v).black (by rw[zmW];exact hm0) c _
  case more v hv=>exact h.shade hm0 c v
  all_goals exact h
 case sweep hm hp s=>
  cases s
  case old hm hp hmet hf h0 p=>exact h.put hm0 h0 p
  case free hm hp hmet hn hl hq hf h0=>exact h.free (zW hw) h0
  case dirty hc=>exact h.card _ _
  all_goals exact h
 all_goals exact h
theorem HZ.shadeM {L:Nat} {m:Mu} (h:HZ L m.h) (hm:zx m.h []=true) (a:Int):HZ L (shadeM m a).h:=by
 show HZ L (if zga m.c m.t=true then zH m.h m.c a else m.h)
 split
 ·exact h.shade hm _ _
 ·exact h
theorem zy9 (m:Mu) (r a:Int):(zcw m r a).h=m.h:=by unfold zcw;split<;>rfl
theorem HZ.step {L:Nat} {m:Mu} (h:HZ L m.h) {cs:List Lists} (hw:zq m.h (m.t.cache::cs)=true):HZ L (zdB m).h:=by
 have hm0:=zbI hw
 have hset:∀r a,HZ L (zcw m r a).h:=fun r a=>by rw[zy9];exact h
 unfold zdB
 split
 ·unfold createM
  split
  ·exact hset _ _
  ·split
   ·exact h
   ·split
    ·exact h
    ·rename_i he
     exact h.take hw (Classical.not_not.1 he)
 ·split
  ·unfold loadM
   split
   ·exact h
   ·split
    ·exact h
    ·exact hset _ _
  ·split
   ·unfold storeM
    split
    ·unfold zg8
     split
     ·exact h
     ·exact h
    ·split
     ·exact h.shadeM hm0 _
     ·split
      ·exact h.shadeM hm0 _
      ·split
       ·unfold zgR
        split
        ·exact h
        ·rename_i he
         have he:=Classical.not_not.1 he
         obtain⟨f1,f2,f3,f4,_⟩:=zfz he
         show HZ L (zf2 m.h (zdG m m.op.a m.op.b) m.t.y)
         rw[f4]
         exact h.write f1 ⟨f2,f3⟩
       ·unfold zgV
        split
        ·rename_i he
         obtain⟨f1,_⟩:=zfz he
         obtain⟨z1,z2,z3,z4⟩:=za4 f1
         have hcd:zbb m.h (zdO m m.op.a m.op.b)=0:=zfw hm0 ⟨z2,by omega⟩
         show HZ L (zaY m.h (zdO m m.op.a m.op.b))
         unfold zaY
         rw[decide_eq_true hcd]
         exact h.card _ _
        ·exact h
   ·split
    ·exact hset _ _
    ·split
     ·exact h
     ·split
      ·exact h
      ·split
       ·exact h.flush hw
       ·exact h
theorem SameC.refl (c:Col):SameC c c:=⟨rfl,rfl,rfl,rfl,rfl,rfl,rfl,rfl⟩
def ThT (t u:Thread):Prop:=u.live=t.live/\u.epoch=t.epoch/\u.stage=t.stage/\u.root=t.root/\((u.ops=t.ops/\t.pc<u.pc)\/(u.ops=t.ops.drop 1/\u.pc=0))
def MuT (m k:Mu):Prop:=SameC m.c k.c/\(ThT m.t k.t\/(m.op.kind=6/\k.t=Thread.zero))
theorem zff (m:Mu) (e v:Int):MuT m (endM m e v):=⟨.refl _,.inl ⟨rfl,rfl,rfl,rfl,.inr ⟨rfl,rfl⟩⟩⟩
theorem ztb (m:Mu) (r a e v:Int):MuT m (endM (zcw m r a) e v):=by
 unfold zcw
 split
 ·obtain⟨_,s2,s3,s4,s5,s6,s7,_⟩:=zgS m.t r a
  exact⟨.refl _,.inl ⟨s7,s6,s4,s5,.inr ⟨congrArg (List.drop 1) s2,rfl⟩⟩⟩
 ·exact zff m e v
theorem zpX (m:Mu) (a:Int):MuT m (shadeM m a):=by
 refine⟨?_,.inl ⟨rfl,rfl,rfl,rfl,.inl ⟨rfl,by show m.t.pc<m.t.pc+1;omega⟩⟩⟩
 show SameC m.c (if zga m.c m.t=true then zG m.h m.c a else m.c)
 split
 ·exact zY _ _ _
 ·exact .refl _
theorem ztN (m:Mu):MuT m (zdB m):=by
 unfold zdB
 split
 ·unfold createM
  split
  ·exact ztb ..
  ·split
   ·exact zff ..
   ·split
    ·exact zff ..
    ·exact⟨.refl _,.inl ⟨rfl,rfl,rfl,rfl,.inl ⟨rfl,by show m.t.pc<1;omega⟩⟩⟩
 ·split
  ·unfold loadM
   split
   ·exact zff ..
   ·split
    ·exact zff ..
    ·exact ztb ..
  ·split
   ·unfold storeM
    split
    ·unfold zg8
     split
     ·exact zff ..
     ·exact⟨.refl _,.inl ⟨rfl,rfl,rfl,rfl,.inl ⟨rfl,by show m.t.pc<1;omega⟩⟩⟩
    ·split
     ·exact zpX ..
     ·split
      ·exact zpX ..
      ·split
       ·unfold zgR
        split
        ·exact zff ..
        ·exact⟨.refl _,.inl ⟨rfl,rfl,rfl,rfl,.inl ⟨rfl,by show m.t.pc<4;omega⟩⟩⟩
       ·unfold zgV
        split
        ·exact⟨.refl _,.inl ⟨rfl,rfl,rfl,rfl,.inr ⟨rfl,rfl⟩⟩⟩
        ·exact⟨.refl _,.inl ⟨rfl,rfl,rfl,rfl,.inr ⟨rfl,rfl⟩⟩⟩
   ·split
    ·exact ztb ..
    ·split
     ·exact zff ..
     ·split
      ·exact zff ..
      ·split
       ·rename_i h6
        exact⟨.refl _,.inr ⟨h6,rfl⟩⟩
       ·exact zff ..
def KC (c:Col):Prop:=0<=c.field_/\0<=c.card
theorem KC.same {c d:Col} (h:KC c) (s:SameC c d):KC d:=⟨by rw[s.field_];exact h.1,by rw[s.card];exact h.2⟩
theorem zpM (g:Hp) (c:Col) (v:Int):(zax g c v).2.card=c.card:=by
 rcases zbJ g c v with⟨_,e⟩|⟨_,e⟩<;>rw[e]
 exact(zY g c v).card
theorem KC.cyc {g k:Hp} {c d:Col} {l:List Thread} (h:KC c) (s:CStep g c l k d):KC d:=by
 obtain⟨h1,h2⟩:=h
 cases s
 case idle=>exact⟨h1,h2⟩
 case stay=>exact⟨h1,h2⟩
 case next=>
  unfold zgj
  split
  ·exact⟨Int.le_refl _,Int.le_refl _⟩
  ·exact⟨h1,h2⟩
 case scan hm hp s=>
  cases s
  case fin=>exact⟨Int.le_refl _,Int.le_refl _⟩
  case clean=>exact⟨Int.le_refl _,h2⟩
  case skip=>exact⟨h1,by show 0<=c.card+1;omega⟩
  case last v hv=>exact⟨Int.le_refl _,by show 0<=(zax g c v).2.card;rw[zpM];exact h2⟩
  case more v hv=>exact⟨by show 0<=c.field_+1;omega,by show 0<=(zax g c v).2.card;rw[zpM];exact h2⟩
  case lost=>exact⟨Int.le_refl _,h2⟩
  case next=>exact⟨Int.le_refl _,h2⟩
  case done=>exact⟨h1,by show 0<=c.card+1;omega⟩
  all_goals exact⟨h1,h2⟩
 case trace hm hp s=>
  cases s
  case lost=>exact⟨Int.le_refl _,h2⟩
  case last v hv=>exact⟨Int.le_refl _,by show 0<=(zG g c v).card;rw[(zY g c v).card];exact h2⟩
  case more v hv=>exact⟨by show 0<=c.field_+1;omega,by show 0<=(zG g c v).card;rw[(zY g c v).card];exact h2⟩
  case pop=>exact⟨Int.le_refl _,h2⟩
  case find=>exact⟨Int.le_refl _,h2⟩
  case fin=>exact⟨Int.le_refl _,Int.le_refl _⟩
  all_goals exact⟨h1,h2⟩
 case sweep hm hp s=>
  cases s
  case done=>exact⟨Int.le_refl _,Int.le_refl _⟩
  all_goals exact⟨h1,h2⟩
structure EmW (L B:Nat) (w:Wd):Prop where
 z:HZ L w.h
 d:∀t∈w.t,t.live=false->t.cache=⟨[],[],[]⟩
 o:∀t∈w.t,t.ops.length<=B
 k:KC w.c
theorem zsB (c:Col) (t:Thread):(ansT c t).live=t.live/\(ansT c t).cache=t.cache/\(ansT c t).ops=t.ops/\(ansT c t).pc=t.pc:=by
 unfold ansT
 split
 ·exact⟨rfl,rfl,rfl,rfl⟩
 ·exact⟨rfl,rfl,rfl,rfl⟩
 ·exact⟨rfl,rfl,rfl,rfl⟩
 ·split<;>exact⟨rfl,rfl,rfl,rfl⟩
theorem zwU (c:Col) (t:Thread) (l:List Thread):(beginT c t l).live=true/\(beginT c t l).ops=t.ops:=by
 unfold beginT
 split<;>exact⟨rfl,rfl⟩
theorem zwi (g:Hp) (c:Col) (t:Thread):SameC c (mutS g c t).c/\((mutS g c t).t=t\/ThT t (mutS g c t).t\/((t.ops.getD 0 default).kind=6/\(mutS g c t).t=Thread.zero)):=by
 unfold mutS
 split
 ·obtain⟨a,b⟩:=ztN ⟨g,c,t,Res.zero,false⟩
  exact⟨a,b.elim (fun p=>.inr (.inl p)) fun p=>.inr (.inr p)⟩
 ·exact⟨.refl _,.inl rfl⟩
theorem EmW.do_ {L B:Nat} {w:Wd} (h:EmW L B w) (e:Pair):EmW L B (doW w e):=by
 unfold doW
 by_cases hm:zQ w=true
 ·rw[if_pos hm]
  obtain⟨h1,h2,h3,h4⟩:=zP.1 hm
  have hm0:=zbI h4
  have hstart:∀m,EmW L B (startW w m):=fun m=>by
   unfold startW
   split
   ·rename_i he
    refine⟨h.z,h.d,h.o,?_⟩
    show KC (zbS w.c m)
    unfold zbS
    rw[if_pos he]
    exact⟨Int.le_refl _,Int.le_refl _⟩
   ·exact h
  unfold doW1
  split
  ·unfold stepW
   split
   ·exact h
   ·rename_i hi
    have hi:zfd w e.snd=true:=by simpa using hi
    split
    ·exact h
    ·rename_i hn
     have hlv:(thW w e.snd).live=true:=by
      cases hl:(thW w e.snd).live with
      |true=>rfl
      |false=>exact absurd (by unfold zbP;rw[hl];rfl) hn
     split
     ·obtain⟨a1,a2,a3,a4⟩:=zsB w.c (thW w e.snd)
      refine⟨?_,fun t ht hd=>?_,fun t ht=>?_,?_⟩
      ·show HZ L (ansG w.h w.c (thW w e.snd))
       unfold ansG
       split
       ·exact h.z.shade hm0 _ _
       ·exact h.z
      ·rcases zat ht with ht|rfl
       ·exact h.d t ht hd
       ·rw[a1,hlv]at hd;cases hd
      ·rcases zat ht with ht|rfl
       ·exact h.o t ht
       ·rw[a3];exact h.o _ (zb6 hi)
      ·show KC (ansC w.h w.c (thW w e.snd))
       unfold ansC
       split
       ·exact h.k.same (zY _ _ _)
       ·exact h.k
     ·obtain⟨s1,s2⟩:=zwi w.h w.c (thW w e.snd)
      have hzz:HZ L (mutS w.h w.c (thW w e.snd)).h:=by
       unfold mutS
       split
       ·obtain⟨cs,hc⟩:=zjT hi h4
        exact HZ.step (m:=⟨w.h,w.c,thW w e.snd,Res.zero,false⟩) h.z hc
       ·exact h.z
      have hO:=h.o _ (zb6 hi)
      refine⟨hzz,fun t ht hd=>?_,fun t ht=>?_,h.k.same s1⟩
      ·rcases zat ht with ht|rfl
       ·exact h.d t ht hd
       ·rcases s2 with p|p|⟨_,p⟩
        ·rw[p,hlv]at hd;cases hd
        ·rw[p.1,hlv]at hd;cases hd
        ·rw[p];rfl
      ·rcases zat ht with ht|rfl
       ·exact h.o t ht
       ·rcases s2 with p|p|⟨_,p⟩
        ·rw[p];exact hO
        ·rcases p.2.2.2.2 with⟨q,_⟩|⟨q,_⟩
         ·rw[q];exact hO
         ·rw[q,List.length_drop];omega
        ·rw[p];exact Nat.zero_le _
  ·split
   ·have s:=zc1 w.h w.c w.t
    exact⟨h.z.cyc s h4,h.d,h.o,h.k.cyc s⟩
   ·split
    ·exact hstart _
    ·split
     ·exact hstart _
     ·split
      ·unfold beginW
       split
       ·exact h
       ·rename_i hi
        have hi:zfd w e.snd=true:=by simpa using hi
        split
        ·exact h
        ·obtain⟨b1,b2⟩:=zwU w.c (thW w e.snd) w.t
         refine⟨h.z,fun t ht hd=>?_,fun t ht=>?_,h.k⟩
         ·rcases zat ht with ht|rfl
          ·exact h.d t ht hd
          ·rw[b1]at hd;cases hd
         ·rcases zat ht with ht|rfl
          ·exact h.o t ht
          ·rw[b2];exact h.o _ (zb6 hi)
      ·exact h
 ·rw[if_neg hm];exact h
theorem EmW.run {L B:Nat} {w:Wd} (h:EmW L B w) (l:List Pair):EmW L B (runW w l):=by
 unfold runW
 induction l generalizing w with
 |nil=>exact h
 |cons e r ih=>exact ih (h.do_ e)
theorem EmW.steps {L B:Nat} {w:Wd} (h:EmW L B w):∀k,EmW L B (zJ w k)
 |0=>h
 |k+1=>(h.steps k).do_ _
theorem EmW.rounds {L B:Nat}:∀ {w:Wd} (k:Nat),EmW L B w->EmW L B (roundsW k w)
 |w,0,h=>h
 |w,k+1,h=>by
  show EmW L B (if w.c.phase≠0 then roundsW k (zbc w) else w)
  split
  ·exact EmW.rounds k ((h.steps _).do_ _)
  ·exact h
abbrev opX:Op:=⟨6,0,0,0⟩
def zc2 (t:Thread):Thread:=if t.live=true then {t with ops:=t.ops++[opX]} else t
def zav (w:Wd):Wd:={w with t:=w.t.map zc2}
def zqi (t:Thread):Bool:=t.live&&decide (0<t.ops.length)
def zdH (w:Wd):Nat->Bool
 |0=>false
 |k+1=>zdH w k || zqi ((zJ w k).t.getD k default)
def drainW:Nat->Wd->Wd
 |0,w=>w
 |m+1,w=>if zdH w w.t.length=true then drainW m (zJ w w.t.length) else zJ w w.t.length
def LX (t:Thread):Prop:=t.live=true->∃p,t.ops=p++[opX]
def zfb (c:Col) (t:Thread):Int:=if t.epoch≠c.epoch then 6 else if c.phase=2 then (if 2<=t.stage then 0 else 1) else if 3<=c.phase then (if t.stage=3 then 0 else 5-t.root) else 0
def Qt (c:Col) (t:Thread):Int:=5*(t.ops.length:Int)-t.pc+zfb c t
theorem zqa {c:Col} {t:Thread} (h:t.root<=3):0<=zfb c t:=by
 unfold zfb
 repeat' split
 all_goals omega
theorem zxX {c:Col} {t:Thread} (h:0<=t.root):zfb c t<=6:=by
 unfold zfb
 repeat' split
 all_goals omega
theorem zzq {c:Col} {t:Thread} (hc:zbi c=true) (ha:zaS c t=true):Qt c (ansT c t)<=Qt c t-1:=by
 obtain⟨a1,a2,a3,a4⟩:=zmQ ha
 obtain⟨b1,b2,b3,b4⟩:=zsB c t
 obtain⟨s0,s3,r0,r3,_⟩:=a2
 obtain⟨p0,p6,_⟩:=zeT hc
 have key:zfb c (ansT c t)<=zfb c t-1:=by
  unfold ansT zbD
  rw[if_pos ha]
  by_cases he:t.epoch≠c.epoch
  ·rw[if_pos he]
   have e:zfb c t=6:=if_pos he
   rw[e]
   show zfb c {t with epoch:=c.epoch,stage:=1,root:=0}<=5
   unfold zfb
   rw[if_neg (fun k=>k rfl)]
   repeat' split
   all_goals first|omega|(show(5:Int)-0<=5;omega)
  ·have he':=Classical.not_not.1 he
   rw[if_neg he]
   unfold zaz at a4
   by_cases h0:c.phase=0
   ·rw[if_pos h0]at a4;cases a4
   rw[if_neg h0]at a4
   by_cases h1:c.phase=1
   ·rw[if_pos h1,decide_eq_true he']at a4;cases a4
   rw[if_neg h1]at a4
   by_cases h2:c.phase=2
   ·rw[if_pos h2]at a4 ⊢
    have hs:¬2<=t.stage:=fun k=>of_decide_eq_false a4 ⟨he',k⟩
    show zfb c {t with stage:=2}<=_
    unfold zfb
    rw[if_neg he,if_neg he,if_pos h2,if_pos h2,if_neg hs,if_pos (by show(2:Int)<=2;omega)]
    omega
   ·rw[if_neg h2]at a4 ⊢
    have hs:¬t.stage=3:=fun k=>of_decide_eq_false a4 ⟨he',k⟩
    have h3:3<=c.phase:=by omega
    have e:zfb c t=5-t.root:=by unfold zfb;rw[if_neg he,if_neg h2,if_pos h3,if_neg hs]
    rw[e]
    show zfb c (if t.root=3 then {t with root:=0,stage:=3} else {t with root:=t.root+1})<=_
    split
    ·unfold zfb
     rw[if_neg he,if_neg h2,if_pos h3,if_pos rfl]
     omega
    ·unfold zfb
     rw[if_neg he,if_neg h2,if_pos h3,if_neg hs]
     show 5-(t.root+1)<=_
     omega
 unfold Qt
 rw[b3,b4]
 omega
theorem zxY {g:Hp} {C:Lists} {cs:List Lists} (hw:zq g (C::cs)=true):zx g [C]=true:=by
 obtain⟨m1,m2,m3,m4⟩:=zai (zW hw)
 refine zdr m1 (fun l hl=>m2 l ?_) m3 ?_
 ·rcases List.mem_cons.1 hl with rfl|hl
  ·exact List.mem_cons_self ..
  ·rw[List.mem_singleton.1 hl];exact List.mem_cons_of_mem _ (List.mem_cons_self ..)
 ·have e:zn (g.free::C::cs)=zn [g.free,C]++zn cs:=by
   show g.free.flat++(C.flat++zn cs)=(g.free.flat++(C.flat++[]))++zn cs
   rw[List.append_nil,List.append_assoc]
  rw[e]at m4
  exact(List.nodup_append.1 m4).1
theorem zu5 {m:Mu} (h:m.op.kind=6):(zdB m).t=Thread.zero:=by
 unfold zdB
 rw[h]
 rfl
theorem zzu {g:Hp} {c:Col} {t:Thread} {cs:List Lists} (hw:zq g (t.cache::cs)=true) (hT:t.mayT) (hl:t.live=true) (hx:LX t) :
  ((mutS g c t).t.live=true->Qt c (mutS g c t).t<=Qt c t-1)/\LX (mutS g c t).t:=by
 obtain⟨p,hp⟩:=hx hl
 have hlen:t.ops.length=p.length+1:=by rw[hp];simp
 have hm:zgE g t=true:=by
  unfold zgE
  rw[decide_eq_true hT,hl,decide_eq_true (show 0<t.ops.length by omega),zxY hw]
  rfl
 unfold mutS
 rw[if_pos hm]
 by_cases h6:(t.ops.getD 0 default).kind=6
 ·have e:=zu5 (m:=⟨g,c,t,Res.zero,false⟩) h6
  rw[e]
  exact⟨fun k=>absurd k (by decide),fun k=>absurd k (by decide)⟩
 ·obtain⟨_,b⟩:=ztN ⟨g,c,t,Res.zero,false⟩
  rcases b with⟨q1,q2,q3,q4,q5⟩|⟨k,_⟩
  ·generalize (zdB ⟨g,c,t,Res.zero,false⟩).t=u at *
   have q1:u.live=t.live:=q1
   have q2:u.epoch=t.epoch:=q2
   have q3:u.stage=t.stage:=q3
   have q4:u.root=t.root:=q4
   have q5:(u.ops=t.ops/\t.pc<u.pc)\/(u.ops=t.ops.drop 1/\u.pc=0):=q5
   have eA:zfb c u=zfb c t:=by unfold zfb;rw[q2,q3,q4]
   have hpc:=hT.2.2.2.2.2.1
   constructor
   ·intro _
    unfold Qt
    rw[eA]
    rcases q5 with⟨a,b⟩|⟨a,b⟩
    ·rw[a];omega
    ·rw[a,b,List.length_drop];omega
   ·intro _
    rcases q5 with⟨a,_⟩|⟨a,_⟩
    ·exact⟨p,a.trans hp⟩
    ·cases p with
     |nil=>
      exfalso
      apply h6
      rw[hp];rfl
     |cons y r=>exact⟨r,by rw[a,hp];rfl⟩
  ·exact absurd k h6
theorem zy4 {u:Wd} (hm:zQ u=true) (hX:∀t∈u.t,LX t) {n:Nat} (hn:n<u.t.length) :
  ∃t',(doW u ⟨0,(n:Int)⟩).t=u.t.set n t'/\LX t'/\(t'.live=true->(u.t.getD n default).live=true/\Qt u.c t'<=Qt u.c (u.t.getD n default)-1)/\(doW u ⟨0,(n:Int)⟩).c.phase=u.c.phase/\(doW u ⟨0,(n:Int)⟩).c.epoch=u.c.epoch:=by
 obtain⟨h1,h2,h3,h4⟩:=zP.1 hm
 have hi:zfd u (n:Int)=true:=decide_eq_true ⟨by omega,by omega⟩
 have eth:thW u (n:Int)=u.t.getD n default:=rfl
 have hmem:u.t.getD n default∈u.t:=zb6 hi
 have e:doW u ⟨0,(n:Int)⟩=stepW u (n:Int):=by unfold doW;rw[if_pos hm];rfl
 rw[e]
 unfold stepW
 rw[if_neg (by rw[hi];decide),eth]
 have hself:u.t=u.t.set n (u.t.getD n default):=by
  rw[List.getD_eq_getElem?_getD,List.getElem?_eq_getElem hn]
  exact(List.set_getElem_self hn).symm
 cases hl:(u.t.getD n default).live with
 |false=>
  have hno:zbP u (n:Int)=true:=by unfold zbP;rw[eth,hl];rfl
  rw[if_pos hno]
  exact⟨u.t.getD n default,hself,hX _ hmem,fun k=>absurd k (by rw[hl];decide),rfl,rfl⟩
 |true=>
  obtain⟨p,hp⟩:=hX _ hmem hl
  have hno:¬zbP u (n:Int)=true:=by
   unfold zbP
   rw[eth,hl,decide_eq_false (show ¬(u.t.getD n default).ops.length=0 by rw[hp];simp)]
   simp
  rw[if_neg hno]
  by_cases ha:zaS u.c (u.t.getD n default)=true
  ·rw[if_pos ha]
   obtain⟨b1,b2,b3,b4⟩:=zsB u.c (u.t.getD n default)
   have sc:=zmM u.h u.c (u.t.getD n default)
   exact⟨_,rfl,fun _=>⟨p,b3.trans hp⟩,fun _=>⟨rfl,zzq h3 ha⟩,sc.phase,sc.epoch⟩
  ·rw[if_neg ha]
   obtain⟨cs,hc⟩:=zjT hi h4
   obtain⟨q1,q2⟩:=zzu (c:=u.c) hc (h2 _ hmem) hl (hX _ hmem)
   obtain⟨s1,_⟩:=zwi u.h u.c (u.t.getD n default)
   exact⟨_,rfl,q2,fun k=>⟨rfl,q1 k⟩,s1.phase,s1.epoch⟩
theorem zqr {l:List Thread} {n j:Nat} {x:Thread} (hn:n<l.length):(l.set n x).getD j default=if n=j then x else l.getD j default:=by
 rw[List.getD_eq_getElem?_getD,List.getElem?_set]
 split
 ·rename_i e
  subst e
  rfl
 ·rw[←List.getD_eq_getElem?_getD]
theorem zmD {c d:Col} (h1:d.phase=c.phase) (h2:d.epoch=c.epoch) (t:Thread):Qt d t=Qt c t:=by unfold Qt zfb;rw[h1,h2]
theorem zgd {w:Wd} (h:zQ w=true):∀k,zQ (zJ w k)=true/\(zJ w k).log.length<=w.log.length+k
 |0=>⟨h,Nat.le_refl _⟩
 |k+1=>by
  obtain⟨h1,h2⟩:=zgd h k
  have:=zke (zJ w k) ⟨0,(k:Int)⟩
  exact⟨zdQ h1 _,by show(doW _ _).log.length<=_;omega⟩
theorem zoV {u:Wd} (hm:zQ u=true) (hX:∀t∈u.t,LX t):∀k,k<=u.t.length ->
  (∀t∈(zJ u k).t,LX t)/\(zJ u k).c.phase=u.c.phase/\(zJ u k).c.epoch=u.c.epoch /\
  (∀j,j<u.t.length->k<=j->(zJ u k).t.getD j default=u.t.getD j default) /\
  (∀j,j<k->((zJ u k).t.getD j default).live=true->(u.t.getD j default).live=true/\Qt u.c ((zJ u k).t.getD j default)<=Qt u.c (u.t.getD j default)-1)
 |0,_=>⟨hX,rfl,rfl,fun _ _ _=>rfl,fun j h=>absurd h (Nat.not_lt_zero j)⟩
 |k+1,hk=>by
  obtain⟨i1,i2,i3,i4,i5⟩:=zoV hm hX k (by omega)
  have hl:=zeu u k
  obtain⟨t',e,x1,x2,x3,x4⟩:=zy4 (zgd hm k).1 i1 (n:=k) (by omega)
  show(∀t∈(doW (zJ u k) ⟨0,(k:Int)⟩).t,LX t)/\(doW (zJ u k) ⟨0,(k:Int)⟩).c.phase=_/\(doW (zJ u k) ⟨0,(k:Int)⟩).c.epoch=_/\(∀j,j<u.t.length->k+1<=j->(doW (zJ u k) ⟨0,(k:Int)⟩).t.getD j default=_) /\
   (∀j,j<k+1->((doW (zJ u k) ⟨0,(k:Int)⟩).t.getD j default).live=true->_/\Qt u.c ((doW (zJ u k) ⟨0,(k:Int)⟩).t.getD j default)<=_)
  rw[e]
  have hkl:k<(zJ u k).t.length:=by omega
  refine⟨fun t ht=>?_,x3.trans i2,x4.trans i3,fun j j1 j2=>?_,fun j hj hlv=>?_⟩
  ·rcases zat ht with ht|rfl
   ·exact i1 t ht
   ·exact x1
  ·rw[zqr hkl,if_neg (by omega)]
   exact i4 j j1 (by omega)
  ·rw[zqr hkl]at hlv ⊢
   by_cases ej:k=j
   ·subst ej
    rw[if_pos rfl]at hlv ⊢
    obtain⟨y1,y2⟩:=x2 hlv
    rw[i4 k (by omega) (Nat.le_refl _)]at y1 y2
    rw[zmD i2 i3,zmD i2 i3]at y2
    exact⟨y1,y2⟩
   ·rw[if_neg ej]at hlv ⊢
    exact i5 j (by omega) hlv
def zcZ (w:Wd):Prop:=∀t∈w.t,t.live=false
theorem zq5 {l:List Thread} {t:Thread} (h:t∈l):∃j,j<l.length/\l.getD j default=t:=by
 obtain⟨j,hj,e⟩:=List.mem_iff_getElem.1 h
 exact⟨j,hj,by rw[List.getD_eq_getElem?_getD,List.getElem?_eq_getElem hj,e];rfl⟩
theorem zpo {u:Wd} (hm:zQ u=true) (hX:∀t∈u.t,LX t):∀k,k<=u.t.length->zdH u k=false->∀j,j<k->(u.t.getD j default).live=false
 |0,_,_=>fun j h=>absurd h (Nat.not_lt_zero j)
 |k+1,hk,hb=>fun j hj=>by
  have hb:(zdH u k || zqi ((zJ u k).t.getD k default))=false:=hb
  rw[Bool.or_eq_false_iff]at hb
  by_cases e:j=k
  ·subst e
   have h4:=(zoV hm hX j (by omega)).2.2.2.1 j (by omega) (Nat.le_refl _)
   have hb2:=hb.2
   rw[h4]at hb2
   cases hl:(u.t.getD j default).live with
   |false=>rfl
   |true=>
    exfalso
    have hmem:u.t.getD j default∈u.t:=by
     rw[List.getD_eq_getElem?_getD,List.getElem?_eq_getElem (show j<u.t.length by omega)]
     exact List.getElem_mem _
    obtain⟨p,hp⟩:=hX _ hmem hl
    unfold zqi at hb2
    rw[hl,decide_eq_true (show 0<(u.t.getD j default).ops.length by rw[hp];simp)]at hb2
    cases hb2
  ·exact zpo hm hX k (by omega) hb.1 j (by omega)
theorem zlx:∀(M:Nat) (u:Wd) (m:Int),zQ u=true->(∀t∈u.t,LX t)->(∀t∈u.t,t.live=true->Qt u.c t<=m)->m<=M->zcZ (drainW M u)
 |0,u,m,hm,hX,hq,hM=>fun t ht=>by
  cases hl:t.live with
  |false=>rfl
  |true=>
   exfalso
   have ht:t∈u.t:=ht
   have h1:=hq t ht hl
   obtain⟨p,hp⟩:=hX t ht hl
   have hT:=(zP.1 hm).2.1 t ht
   have h2:=zqa (c:=u.c) hT.2.2.2.1
   have h3:t.ops.length=p.length+1:=by rw[hp];simp
   have h4:=hT.2.2.2.2.2.1
   unfold Qt at h1
   omega
 |M+1,u,m,hm,hX,hq,hM=>by
  obtain⟨i1,i2,i3,i4,i5⟩:=zoV hm hX u.t.length (Nat.le_refl _)
  have hl:=zeu u u.t.length
  show zcZ (if zdH u u.t.length=true then drainW M (zJ u u.t.length) else zJ u u.t.length)
  split
  ·refine zlx M _ (m-1) (zgd hm _).1 i1 (fun t ht hlv=>?_) (by omega)
   obtain⟨j,hj,e⟩:=zq5 ht
   rw[←e]at hlv ⊢
   obtain⟨a,b⟩:=i5 j (by omega) hlv
   have hmem:u.t.getD j default∈u.t:=by
    rw[List.getD_eq_getElem?_getD,List.getElem?_eq_getElem (show j<u.t.length by omega)]
    exact List.getElem_mem _
   have:=hq _ hmem a
   rw[zmD i2 i3]
   omega
  ·rename_i hb
   have hb:zdH u u.t.length=false:=by simpa using hb
   have hd:=zpo hm hX u.t.length (Nat.le_refl _) hb
   intro t ht
   obtain⟨j,hj,e⟩:=zq5 ht
   cases hlv:t.live with
   |false=>rfl
   |true=>
    rw[←e]at hlv
    have:=(i5 j (by omega) hlv).1
    rw[hd j (by omega)]at this
    cases this
theorem zdJ {P:Wd->Prop} (hP:∀w (n:Int),P w->P (doW w ⟨0,n⟩)):∀(M:Nat) (u:Wd),P u->P (drainW M u)
 |0,_,h=>h
 |M+1,u,h=>by
  have hs:∀k,P (zJ u k):=fun k=>by
   induction k with
   |zero=>exact h
   |succ k ih=>exact hP _ _ ih
  show P (if zdH u u.t.length=true then drainW M (zJ u u.t.length) else zJ u u.t.length)
  split
  ·exact zdJ hP M _ (hs _)
  ·exact hs _
theorem znQ:∀(M:Nat) (u:Wd),zQ u=true->(drainW M u).log.length<=u.log.length+4*M
 |0,_,_=>Nat.le_refl _
 |M+1,u,h=>by
  have h4:=(zP.1 h).1
  obtain⟨a,b⟩:=zgd h u.t.length
  show(if zdH u u.t.length=true then drainW M (zJ u u.t.length) else zJ u u.t.length).log.length<=_
  split
  ·have:=znQ M _ a
   omega
  ·omega
open Go.Proofs Go.Proofs.YtlankjlnnimdoaaGreatDoor
theorem zxv {g:Hp} {c:Col} (h:Goes g c) (hc:zbi c=true) (h0:c.phase≠0):1<=phi g c:=by
 obtain⟨m1,m2,_⟩:=zeT hc
 have:0<=(g.w.length:Int)*(g.w.length:Int):=Int.mul_nonneg (by omega) (by omega)
 unfold phi
 rw[if_neg (by omega)]
 split
 ·unfold base;omega
 ·split
  ·split
   ·omega
   ·have:=zgu (g:=g) (c:=c) (by omega);omega
  ·split
   ·rename_i h5
    have:=zt6 (h.t5 h5)
    omega
   ·unfold zjm;omega
end Go.Abs
namespace Go.Abs
set_option maxRecDepth 8000
theorem zwm {w:Wd} (h:zcZ w) (c:Col):zir c w.t=true:=by
 unfold zir
 rw[List.all_eq_true]
 intro t ht
 rw[h t ht]
 rfl
theorem zuH {w:Wd} (h:zcZ w) (n:Int):doW w ⟨0,n⟩=w:=by
 unfold doW
 split
 ·show stepW w n=w
  unfold stepW
  split
  ·rfl
  ·rename_i hi
   have hi:zfd w n=true:=by simpa using hi
   rw[if_pos (show zbP w n=true by unfold zbP;rw[h _ (zb6 hi)];rfl)]
 ·rfl
theorem zmU {w:Wd} (h:zcZ w):∀k,zJ w k=w
 |0=>rfl
 |k+1=>by
  show doW (zJ w k) ⟨0,(k:Int)⟩=w
  rw[zmU h k]
  exact zuH h _
theorem zgc {w:Wd} (h:zcZ w) (hm:zQ w=true):zbc w=colW w:=by
 unfold zbc
 rw[zmU h]
 unfold doW
 rw[if_pos hm]
 rfl
theorem zjg {w:Wd} (h:zcZ w):zcZ (colW w):=h
theorem ziC:∀(k:Nat) (w:Wd),zQ w=true->zcZ w->Goes w.h w.c->phi w.h w.c<=k->(roundsW k w).c.phase=0
 |0,w,hm,hd,hg,hp=>by
  show w.c.phase=0
  apply Classical.byContradiction
  intro h0
  have:=zxv hg (zP.1 hm).2.2.1 h0
  omega
 |k+1,w,hm,hd,hg,hp=>by
  show(if w.c.phase≠0 then roundsW k (zbc w) else w).c.phase=0
  by_cases h0:w.c.phase=0
  ·rw[if_neg (fun q=>q h0)];exact h0
  ·rw[if_pos h0,zgc hd hm]
   obtain⟨h1,h2,h3,h4⟩:=zP.1 hm
   have s:=zc1 w.h w.c w.t
   obtain⟨p1,p2⟩:=zwT s h3 (zbI h4) h0 (fun _=>zwm hd w.c) hg
   have hm' : zQ (colW w)=true:=by
    have:=zdQ hm ⟨1,0⟩
    unfold doW at this
    rw[if_pos hm]at this
    exact this
   rcases p1 with p1|p1
   ·have p1:(colW w).c.phase=0:=p1
    cases k with
    |zero=>exact p1
    |succ k=>
     show(if (colW w).c.phase≠0 then roundsW k (zbc (colW w)) else colW w).c.phase=0
     rw[if_neg (fun q=>q p1)]
     exact p1
   ·exact ziC k (colW w) hm' (zjg hd) p2 (by show phi (zbN w.h w.c w.t).1 (zbN w.h w.c w.t).2<=(k:Int);omega)
theorem zxO {g:Hp} {c:Col} (hm:zx g []=true) (hf:0<=c.field_) (hw:c.work.length<=4):pot g c<=5*((g.w.length:Int)*(g.w.length:Int) / 4+40)+5*(zcV g+2):=by
 have h:=zj0 (g:=g) (c:={c with at_:=0,seek:=0}) hm rfl rfl hw
 have e1:zaU g {c with at_:=0,seek:=0}=zaU g c:=by funext u;rfl
 have e2:isW g {c with at_:=0,seek:=0}=isW g c:=by funext u;rfl
 unfold pot at h ⊢
 rw[e1,e2]at h
 have e3:atF g {c with at_:=0,seek:=0}=0:=if_pos rfl
 have e4:zbl g {c with at_:=0,seek:=0}=0:=if_neg (fun q=>q rfl)
 rw[e3,e4]at h
 have h3:-1<=atF g c:=by
  unfold atF
  split
  ·omega
  ·split
   ·omega
   ·exact Int.le_refl _
 have h4:zbl g c<=zcV g+1:=by
  unfold zbl zcV
  split
  ·have:=List.length_filter_le (fun s=>decide (c.seek<s)) (cellStarts g.pages)
   omega
  ·omega
 have h:5*(sumI (zu g) (zaU g c)-0+2*(c.work.length:Int)+0+1)+(zcV g+2)*sumI (zu g) (isW g c)+zbx (zcV g+2) c.over c.work.length<=5*((g.w.length:Int)*(g.w.length:Int) / 4+40):=h
 omega
theorem ztS {g:Hp} {c:Col} (hc:zbi c=true) (hm:zx g []=true) (hk:KC c):phi g c+1<=(g.w.length:Int)*(g.w.length:Int) / 4+10*(g.w.length:Int)+100:=by
 obtain⟨m1,m2,m3,m4,m5,m6⟩:=zeT hc
 obtain⟨hw,_⟩:=zl (zA hm)
 have h16:16<=(g.w.length:Int):=by have:=of_decide_eq_true hw;omega
 have hsq:0<=(g.w.length:Int)*(g.w.length:Int):=Int.mul_nonneg (by omega) (by omega)
 obtain⟨u1,u2,u3⟩:=zjR hm
 by_cases h3:c.phase<=3
 ·have:=zy1 hc hm h3
  omega
 ·unfold phi
  rw[if_neg (by omega),if_neg h3]
  split
  ·have:=ztH (g:=g) (c:=c) hm hk.2
   split<;>omega
  ·split
   ·have:=zxO hm hk.1 m6
    omega
   ·have:=zt9 hm c
    omega
def za6 (w:Wd):Nat:=w.h.w.length*w.h.w.length / 4+10*w.h.w.length+100
theorem zsx (w:Wd):((za6 w:Nat):Int)=(w.h.w.length:Int)*(w.h.w.length:Int) / 4+10*(w.h.w.length:Int)+100:=by
 unfold za6
 generalize w.h.w.length=n
 omega
theorem zkt {w : Wd} (hm : zQ w = true) (hd : zcZ w) (hk : KC w.c) : (roundsW (za6 w) w).c.phase = 0 := by
  obtain ⟨h1, h2, h3, h4⟩ := zP.1 hm
  have hm0 := zbI h4
  have hb := ztS h3 hm0 hk
  have hcast := zsx w
  by_cases ht : w.c.phase = 5 -> TA w.h w.c
  · exact ziC _ w hm hd ⟨fun _ => hk.2, ht⟩ (by omega)
  · have hp : w.c.phase = 5 := Classical.byContradiction fun q => ht fun p => absurd p q
    have hta : ¬ TA w.h w.c := fun q => ht fun _ => q
    have hne : w.c.at_ ≠ 0 := fun q => hta (zd2 q)
    have hbad : ¬ (atK w.h w.c w.c.at_ = 2 -> w.c.at_ ≠ 0 -> w.c.field_ < (headH w.h w.c.at_).n) := fun q => hta ⟨fun _ => hk.1, q⟩
    have h2' : atK w.h w.c w.c.at_ = 2 := Classical.byContradiction fun q => hbad fun p => absurd p q
    have hge : (headH w.h w.c.at_).n <= w.c.field_ := by
      apply Classical.byContradiction
      intro q
      exact hbad fun _ _ => by omega
    have hN : zaT w.h w.c w.c.at_ = (headH w.h w.c.at_).n := if_pos h2'
    obtain ⟨b, eb⟩ : ∃ b, za6 w = b + 1 := ⟨za6 w - 1,(by have q : 100 <= za6 w:=(by unfold za6;omega);omega)⟩
    rw [eb]
    show (if w.c.phase ≠ 0 then roundsW b (zbc w) else w).c.phase = 0
    rw [if_pos (by omega), zgc hd hm]
    have s := zc1 w.h w.c w.t
    have hm' : zQ (colW w) = true := by
      have := zdQ hm ⟨1, 0⟩
      unfold doW at this
      rw [if_pos hm] at this
      exact this
    have key : (colW w).h = w.h /\ (colW w).c = { w.c with at_ := 0, field_ := 0 } := by
      show (zbN w.h w.c w.t).1 = w.h /\ (zbN w.h w.c w.t).2 = { w.c with at_ := 0, field_ := 0 }
      generalize (zbN w.h w.c w.t).1 = k at s
      generalize (zbN w.h w.c w.t).2 = d at s
      cases s
      case idle h => exact absurd ⟨h3, by omega⟩ h
      case trace hm1 hp1 s =>
        cases s
        case idle h => exact absurd ⟨hm0, hp⟩ h
        case lost => exact ⟨rfl, rfl⟩
        all_goals omega
      all_goals omega
    obtain ⟨e1, e2⟩ := key
    have hk' : KC (colW w).c := by rw [e2]; exact ⟨Int.le_refl _, hk.2⟩
    have hb' := ztS (g := (colW w).h) (zP.1 hm').2.2.1 (by rw [e1]; exact hm0) hk'
    rw [e1] at hb'
    refine ziC b (colW w) hm' (zjg hd) ⟨fun _ => hk'.2, fun _ => ?_⟩ (by rw [e1]; omega)
    rw [e2]
    exact zd2 rfl
structure FS (g:Hp) (c:Col):Prop where
 p1:1<=c.phase
 p4:c.phase≠4
 mj:c.major=true
 ov:c.over=false
 wk:c.work=[]
 at0:c.at_=0
 met:c.met=false
 sk:c.phase<=5->c.seek=0
 ol:∀u,headE g u=0->(headH g u).mark<c.epoch
 un:c.phase=6->∀u,headE g u=0->c.seek<u
theorem FS.step {g k:Hp} {c d:Col} {l:List Thread} {cs:List Lists} (h:FS g c) (s:CStep g c l k d) (hw:zq g cs=true):FS k d\/(d.phase=0/\∀u,headE k u≠0):=by
 have hm0:=zbI hw
 have hst:∀u,headE g u=0->u∈cellStarts g.pages:=fun u hu=>zw.2 (zU hu).2.1
 cases s
 case idle=>exact .inl h
 case stay=>exact .inl h
 case next hm h1 h3 ha=>
  left
  unfold zgj
  split
  ·refine⟨?_,?_,h.mj,h.ov,h.wk,rfl,rfl,fun _=>rfl,h.ol,fun k=>?_⟩
   ·show 1<=(if c.major=true then (5:Int) else 4);split<;>omega
   ·show(if c.major=true then (5:Int) else 4)≠4;rw[if_pos h.mj];decide
   ·exact absurd k (by show ¬(if c.major=true then (5:Int) else 4)=6;rw[if_pos h.mj];decide)
  ·exact⟨by show 1<=c.phase+1;omega,by show c.phase+1≠4;omega,h.mj,h.ov,h.wk,h.at0,h.met,fun _=>h.sk (by omega),h.ol,fun k=>absurd k (by show ¬c.phase+1=6;omega)⟩
 case scan hp s=>exact absurd hp h.p4
 case trace hm hp s=>
  have hs0:=h.sk (by omega)
  cases s
  case idle=>exact .inl h
  case fin=>
   exact .inl ⟨by show(1:Int)<=6;decide,by show(6:Int)≠4;decide,h.mj,h.ov,h.wk,rfl,rfl,fun k=>rfl,h.ol,fun _ u hu=>by
    have:=(za4 hu).2.1
    show(0:Int)<u
    omega⟩
  case lost _ _ ha _=>exact absurd h.at0 ha
  case last _ _ ha _ _ v hv=>exact absurd h.at0 ha
  case more _ _ ha _ _ v hv=>exact absurd h.at0 ha
  case pop _ _ _ r x hwk=>rw[h.wk]at hwk;exact absurd hwk.symm (by simp)
  case pass _ _ _ _ hs _=>exact absurd hs0 hs
  case find _ _ _ _ hs _=>exact absurd hs0 hs
  case again _ _ _ _ _ ho=>rw[h.ov]at ho;cases ho
 case sweep hm hp s=>
  have hfate:∀u,headE g u=0->zbW g c u=1:=fun u hu=>by
   unfold zbW
   rw[if_neg,if_pos (h.ol u hu)]
   rintro (q|⟨_,q⟩)
   ·exact q hu
   ·rw[h.mj]at q;cases q
  cases s
  case idle=>exact .inl h
  case old _ _ hmet _ _ _=>rw[h.met]at hmet;cases hmet
  case pass _ _ hmet _=>rw[h.met]at hmet;cases hmet
  case free _ _ hmet hn hl hq hf h0=>
   have f:=zny (zW hw) h0
   refine .inl ⟨h.p1,h.p4,h.mj,h.ov,h.wk,h.at0,h.met,fun k=>absurd k (by show ¬c.phase<=5;omega),fun u hu=>?_,fun _ u hu=>?_⟩
   ·rw[(f.head u).2 hu]
    exact h.ol u ((f.head u).1.1 hu).1
   ·obtain⟨q1,q2⟩:=(f.head u).1.1 hu
    have:=hq u (hst u q1) (h.un hp u q1)
    show zM g.pages c.seek<u
    omega
  case dirty _ _ hmet hn hl hq hf h0 hc=>rw[hfate _ h0]at hf;exact absurd hf (by decide)
  case stay _ _ hmet hn hl hq hf=>
   refine .inl ⟨h.p1,h.p4,h.mj,h.ov,h.wk,h.at0,h.met,fun k=>absurd k (by show ¬c.phase<=5;omega),h.ol,fun _ u hu=>?_⟩
   have:=hq u (hst u hu) (h.un hp u hu)
   have hne:u≠zM g.pages c.seek:=fun e=>by
    rw[←e,hfate u hu]at hf
    exact absurd hf (by decide)
   show zM g.pages c.seek<u
   omega
  case done _ _ hmet hn=>
   refine .inr ⟨rfl,fun u hu=>?_⟩
   have:=hn u (hst u hu)
   have:=h.un hp u hu
   omega
theorem zkV:∀(k:Nat) (w:Wd),zQ w=true->zcZ w->(FS w.h w.c\/(w.c.phase=0/\∀u,headE w.h u≠0))->FS (roundsW k w).h (roundsW k w).c\/((roundsW k w).c.phase=0/\∀u,headE (roundsW k w).h u≠0)
 |0,w,hm,hd,h=>h
 |k+1,w,hm,hd,h=>by
  show FS (if w.c.phase≠0 then roundsW k (zbc w) else w).h (if w.c.phase≠0 then roundsW k (zbc w) else w).c\/((if w.c.phase≠0 then roundsW k (zbc w) else w).c.phase=0/\∀u,headE (if w.c.phase≠0 then roundsW k (zbc w) else w).h u≠0)
  by_cases h0:w.c.phase=0
  ·rw[if_neg (fun q=>q h0)];exact h
  ·rw[if_pos h0,zgc hd hm]
   obtain⟨h1,h2,h3,h4⟩:=zP.1 hm
   have hm' : zQ (colW w)=true:=by
    have:=zdQ hm ⟨1,0⟩
    unfold doW at this
    rw[if_pos hm]at this
    exact this
   rcases h with h|⟨h,_⟩
   ·exact zkV k (colW w) hm' (zjg hd) (h.step (zc1 w.h w.c w.t) h4)
   ·exact absurd h h0
theorem zg3:∀(k:Nat) (w:Wd),zQ w=true->zcZ w->zcZ (roundsW k w)/\zQ (roundsW k w)=true/\(roundsW k w).log.length<=w.log.length/\(roundsW k w).c.epoch=w.c.epoch
 |0,w,hm,hd=>⟨hd,hm,Nat.le_refl _,rfl⟩
 |k+1,w,hm,hd=>by
  show zcZ (if w.c.phase≠0 then roundsW k (zbc w) else w)/\zQ (if w.c.phase≠0 then roundsW k (zbc w) else w)=true/\(if w.c.phase≠0 then roundsW k (zbc w) else w).log.length<=_/\(if w.c.phase≠0 then roundsW k (zbc w) else w).c.epoch=_
  by_cases h0:w.c.phase=0
  ·rw[if_neg (fun q=>q h0)];exact⟨hd,hm,Nat.le_refl _,rfl⟩
  ·rw[if_pos h0,zgc hd hm]
   have hm' : zQ (colW w)=true:=by
    have:=zdQ hm ⟨1,0⟩
    unfold doW at this
    rw[if_pos hm]at this
    exact this
   obtain⟨a,b,c,d⟩:=zg3 k (colW w) hm' (zjg hd)
   exact⟨a,b,c,d.trans (zc1 w.h w.c w.t).col.1⟩
end Go.Abs
