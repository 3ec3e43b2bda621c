/- Walks and plain laws: WRef12, WRegsObject, WPuts, WRegsTells, WSame07, WShadeK, WNext, WTraceK, WHandK, WMutK, WCards2, WScanK, WCardsAll, WScanE, WTraceM, WSweep, WSweepK, WRefOwn, WHeapSets, WRef11, WSweepA, WCardsKeep, WCardsTwice, WSweepC, WHeapTells, WSweepE. -/
import Derived.Test.YtlankjlnnimdoaaGreatDoorAbsBase1
import Derived.Test.YtlankjlnnimdoaaGreatDoorPa
import Derived.Test.YtlankjlnnimdoaaGreatDoorPf
import Derived.Test.YtlankjlnnimdoaaGreatDoorPd
import Derived.Test.YtlankjlnnimdoaaGreatDoorPb
import Derived.Test.YtlankjlnnimdoaaGreatDoorPe
set_option linter.all false
namespace Go.Abs
open Go.Proofs Go.Proofs.YtlankjlnnimdoaaGreatDoor
set_option maxRecDepth 8000
theorem zgH (a b c:Int):Spec X 109 [] [.int a,.int b,.int c] (Ret [] (.bo (decide (a>=b)&&decide (a<=c)))):=by
 refine zGO X_ok Tryz.f109 fun _ _=>⟨rfl,?_⟩
 show ARet ..
 refine zo ?_ ⟨rfl,rfl⟩
 cases decide (a>=b)<;>rfl
def Thread.reg (t:Thread) (r:Int):Int:=if r=0 then t.r0 else if r=1 then t.r1 else if r=2 then t.r2 else t.r3
def Thread.setReg (t:Thread) (r a:Int):Thread:=if r=0 then {t with r0:=a} else if r=1 then {t with r1:=a} else if r=2 then {t with r2:=a} else {t with r3:=a}
theorem zlq (t:Thread) (r:Int) (h:0<=r/\r<=3):Spec X 182 [] [t.tv,.int r] (Ret [] (.tup [.int (t.reg r),.int 0])):=by
 refine zGO X_ok Tryz.f182 fun _ _=>⟨rfl,?_⟩
 have hr:r=0\/r=1\/r=2\/r=3:=by omega
 rcases hr with rfl|rfl|rfl|rfl <;>
 ·show ACall ..
  refine za (zgH _ _ _) rfl ?_
  show ABr ..
  refine⟨fun hb=>absurd hb (by decide),fun _=>?_⟩
  show AOb ..
  refine⟨by decide,?_⟩
  show ARet ..
  exact zg rfl ⟨rfl,rfl⟩
theorem znD (t:Thread) (r:Int) (h:¬(0<=r/\r<=3)):Spec X 182 [] [t.tv,.int r] (Ret [] (.tup [.int 0,.int 1])):=by
 refine zGO X_ok Tryz.f182 fun _ _=>⟨rfl,?_⟩
 show ACall ..
 refine za (zgH _ _ _) rfl ?_
 show ABr ..
 refine⟨fun hb=>?_,fun(hb:(!(decide (r>=0)&&decide (r<=3)))=false)=>absurd hb (by simp;omega)⟩
 show ARet ..
 exact zg rfl ⟨rfl,rfl⟩
def Thread.ok (t:Thread):Prop:=t.ops.length<=zi/\t.cache.l0.length<=zi/\t.cache.l1.length<=zi/\t.cache.l2.length<=zi
theorem zwi (t:Thread) (h:t.ok):Spec X 252 [] [t.tv] (Ret [] t.tv):=by
 refine zGO X_ok Tryz.f252 fun _ _=>⟨rfl,?_⟩
 show ACall ..
 refine za (zcb t.ops h.1) rfl ?_
 show ∃n,_
 refine⟨4,.next ?_⟩
 show ABr ..
 refine⟨fun _=>?_,fun hb=>absurd hb (by decide)⟩
 show AOb ..
 refine⟨by decide,?_⟩
 show ACall ..
 refine za (zd t.cache.l0 h.2.1) rfl ?_
 show AOb ..
 refine⟨by decide,?_⟩
 show ALoop ..
 refine .next ?_
 show ABr ..
 refine⟨fun _=>?_,fun hb=>absurd hb (by decide)⟩
 show AOb ..
 refine⟨by decide,?_⟩
 show ACall ..
 refine za (zd t.cache.l1 h.2.2.1) rfl ?_
 show AOb ..
 refine⟨by decide,?_⟩
 show ALoop ..
 refine .next ?_
 show ABr ..
 refine⟨fun _=>?_,fun hb=>absurd hb (by decide)⟩
 show AOb ..
 refine⟨by decide,?_⟩
 show ACall ..
 refine za (zd t.cache.l2 h.2.2.2) rfl ?_
 show AOb ..
 refine⟨by decide,?_⟩
 show ALoop ..
 refine .next ?_
 show ABr ..
 refine⟨fun hb=>absurd hb (by decide),fun _=>?_⟩
 show ARet ..
 exact zg rfl ⟨rfl,rfl⟩
theorem zv4 (t:Thread) (r a:Int) (h:t.ok) (hr:0<=r/\r<=3):Spec X 229 [] [t.tv,.int r,.int a] (Ret [] (.tup [(t.setReg r a).tv,.int 0])):=by
 refine zGO X_ok Tryz.f229 fun _ _=>⟨rfl,?_⟩
 have hr' : r=0\/r=1\/r=2\/r=3:=by omega
 rcases hr' with rfl|rfl|rfl|rfl <;>
 ·show ACall ..
  refine za (zlq t _ (by decide)) rfl ?_
  show ABr ..
  refine⟨fun hb=>absurd hb (by decide),fun _=>?_⟩
  show ACall ..
  refine za (zwi t h) rfl ?_
  show AOb ..
  refine⟨by decide,?_⟩
  show ARet ..
  exact zg rfl ⟨rfl,rfl⟩
def Thread.zero:Thread:=⟨false,0,0,0,0,⟨[],[],[]⟩,0,0,0,[],0,0,0⟩
theorem zkR (t:Thread):Spec X 70 [] [t.tv] (Ret [] (.bo (decide (0<=t.stage/\t.stage<=3/\0<=t.root/\t.root<=3/\0<=t.pc/\t.pc<=4/\(t.ops.length:Int)<=200/\(t.pc=0\/0<(t.ops.length:Int)))))):=by
 refine zGO X_ok Tryz.f70 fun _ _=>⟨rfl,?_⟩
 show ACall ..
 refine za (zgH _ _ _) rfl ?_
 show AIf ((!(decide (t.stage>=0)&&decide (t.stage<=3)))=false/\True) _ _
 refine⟨fun h1=>?_,fun h1=>?_⟩
 ·show ACall ..
  refine za (zgH _ _ _) rfl ?_
  show AIf ((!(decide (t.root>=0)&&decide (t.root<=3)))=false/\True) _ _
  refine⟨fun h2=>?_,fun h2=>?_⟩
  ·show ACall ..
   refine za (zgH _ _ _) rfl ?_
   show ABr (!(decide (t.pc>=0)&&decide (t.pc<=4))) _ _
   refine⟨fun h3=>?_,fun h3=>?_⟩
   ·show ARet ..
    refine zo (y:=decide (0<=t.stage/\t.stage<=3/\0<=t.root/\t.root<=3/\0<=t.pc/\t.pc<=4/\(t.ops.length:Int)<=200/\(t.pc=0\/0<(t.ops.length:Int)))) ?_ ⟨rfl,rfl⟩
    simp at h1 h2 h3 ⊢
    omega
   ·show ARet ..
    refine zo (x:=bif decide ((t.ops.length:Int)<=200) then (bif decide (t.pc=0) then true else decide ((t.ops.length:Int)>0)) else false) ?_ ⟨rfl,rfl⟩
    simp at h1 h2 h3
    simp[h1,h2,h3]
  ·show AOb ((!(decide (t.root>=0)&&decide (t.root<=3)))=true) _
   refine⟨by simp at h2 ⊢;omega,?_⟩
   show ABr true _ _
   refine⟨fun _=>?_,fun h=>absurd h (by simp)⟩
   show ARet ..
   refine zo ?_ ⟨rfl,rfl⟩
   simp at h1 h2 ⊢
   omega
 ·show AOb ..
  refine⟨by simp at h1 ⊢;omega,?_⟩
  show AIf (true=false/\True) _ _
  refine⟨fun h=>absurd h.1 (by simp),fun _=>?_⟩
  show AOb (true=true) _
  refine⟨rfl,?_⟩
  refine zYE (by simp) ?_
  show ARet ..
  refine zo ?_ ⟨rfl,rfl⟩
  simp at h1 ⊢
  omega
theorem zr3 (c:Col) (t:Thread):Spec X 259 [] [c.tv,t.tv] (Ret [] (.bo (decide (t.epoch=c.epoch/\1<=c.phase/\c.phase<=5)))):=by
 refine zGO X_ok Tryz.f259 fun _ _=>⟨rfl,?_⟩
 show AIf (decide (t.epoch=c.epoch)=true/\True) _ _
 refine⟨fun h1=>?_,fun h1=>?_⟩
 ·show ACall ..
  refine za (zgH _ _ _) rfl ?_
  show ARet ..
  refine zo (x:=decide (c.phase>=1)&&decide (c.phase<=5)) ?_ ⟨rfl,rfl⟩
  simp at h1
  simp[h1]
 ·show AOb (decide (t.epoch=c.epoch)=false) _
  refine⟨by simpa using h1,?_⟩
  show ARet ..
  refine zo (x:=false) ?_ ⟨rfl,rfl⟩
  simp at h1
  simp[h1]
theorem zsu (c:Col) (t:Thread):Spec X 235 [] [c.tv,t.tv] (Ret [] (.bo (decide (t.epoch=c.epoch/\t.stage=3/\c.phase≠0)))):=by
 refine zGO X_ok Tryz.f235 fun _ _=>⟨rfl,?_⟩
 show ARet ..
 refine zo (x:=bif (bif decide (t.epoch=c.epoch) then decide (t.stage=3) else false) then !decide (c.phase=0) else false) ?_ ⟨rfl,rfl⟩
 by_cases h1:t.epoch=c.epoch<;>by_cases h2:t.stage=3<;>simp[h1,h2]
def Thread.six (t:Thread):List Int:=[t.r0,t.r1,t.r2,t.r3,t.x,t.y]
def Thread.acc (t:Thread) (i:Nat):List Int:=(t.six.take i).filter fun a=>decide (a≠0)
theorem Thread.acc_len (t:Thread) (i:Nat):(t.acc i).length<=6:=
 Nat.le_trans (List.length_filter_le _ _) (by simp[Thread.six];omega)
theorem Thread.acc_step (t:Thread) (i:Nat) {a:Int} (h:t.six[i]? = some a):t.acc (i+1)=if a=0 then t.acc i else t.acc i++[a]:=by
 unfold Thread.acc
 rw[List.take_add_one,h,List.filter_append]
 by_cases ha:a=0<;>simp[ha]
theorem Thread.acc_most (t:Thread) (i:Nat):(t.acc i).length+1<=zi:=by
 have:=t.acc_len i
 unfold zi
 omega
theorem zrT (t:Thread):Spec X 88 [] [t.tv] (Ret [] (.c (.d (.sl .int (t.acc 6))))):=by
 refine zGO X_ok Tryz.f88 fun _ _=>⟨rfl,?_⟩
 show ∃n,_
 refine⟨0,ALoop.inv (ι:={i:Nat // i<=6}) (fun i=>⟨[(3,.c (.own 1)),(1,.c (.ptr 0 0 0)),(6,.int i.1)],[(0,.vars ((EK.enc .thread t).map .d)),(1,.data .int (t.acc i.1))],32⟩) (fun i=>6-i.1) ⟨0,by simp⟩ ?_ ?_⟩
 ·exact⟨[(32,0)],.cons _ _ _ (.c _ _ (.nilown 1 .int rfl rfl)) (.cons _ _ _ (.c _ _ (.ptr _ _ _ _ rfl)) (.cons _ _ _ .same .nil)),.old 0 32 _ _ _ rfl rfl (.vars _ _ (zb rfl)) (.new 1 .int _ rfl .nil),rfl⟩
 ·rintro⟨i,hi⟩
  have hc:i=0\/i=1\/i=2\/i=3\/i=4\/i=5\/i=6:=by omega
  rcases hc with rfl|rfl|rfl|rfl|rfl|rfl|rfl
  ·refine zYE (by simp) ?_
   refine zYE (by simp) ?_
   show AOb ..
   refine⟨by simp,?_⟩
   show ABr (t.r0 != 0) _ _
   refine⟨fun h=>?_,fun h=>?_⟩
   ·have h0:t.r0≠0:=by simpa using h
    show AOb ((t.acc 0).length+1<=zi) _
    refine⟨t.acc_most 0,?_⟩
    show ARound ..
    refine⟨⟨1,by decide⟩,by simp,[(_,1),(0,0)],.cons _ _ _ (.c _ _ (.own1 _ _)) (.cons _ _ _ (.c _ _ (.ptr _ _ _ _ rfl)) (.cons _ _ _ .same .nil)),.old 0 0 _ _ _ rfl rfl (.vars _ _ (zb rfl)) (.old 1 _ _ _ _ rfl rfl (.data_eq ?_) .nil),rfl⟩
    show t.acc 0++[t.r0]=t.acc 1
    rw[t.acc_step 0 rfl,if_neg h0]
   ·have h0:t.r0=0:=by simpa using h
    show ARound ..
    refine⟨⟨1,by decide⟩,by simp,[(1,1),(0,0)],.cons _ _ _ (.c _ _ (.own1 _ _)) (.cons _ _ _ (.c _ _ (.ptr _ _ _ _ rfl)) (.cons _ _ _ .same .nil)),.old 0 0 _ _ _ rfl rfl (.vars _ _ (zb rfl)) (.old 1 _ _ _ _ rfl rfl (.data_eq ?_) .nil),rfl⟩
    show t.acc 0=t.acc 1
    rw[t.acc_step 0 rfl,if_pos h0]
  ·refine zYE (by simp) ?_
   refine zYE (by simp) ?_
   show AOb ..
   refine⟨by simp,?_⟩
   show ABr (t.r1 != 0) _ _
   refine⟨fun h=>?_,fun h=>?_⟩
   ·have h0:t.r1≠0:=by simpa using h
    show AOb ((t.acc 1).length+1<=zi) _
    refine⟨t.acc_most 1,?_⟩
    show ARound ..
    refine⟨⟨2,by decide⟩,by simp,[(_,1),(0,0)],.cons _ _ _ (.c _ _ (.own1 _ _)) (.cons _ _ _ (.c _ _ (.ptr _ _ _ _ rfl)) (.cons _ _ _ .same .nil)),.old 0 0 _ _ _ rfl rfl (.vars _ _ (zb rfl)) (.old 1 _ _ _ _ rfl rfl (.data_eq ?_) .nil),rfl⟩
    show t.acc 1++[t.r1]=t.acc 2
    rw[t.acc_step 1 rfl,if_neg h0]
   ·have h0:t.r1=0:=by simpa using h
    show ARound ..
    refine⟨⟨2,by decide⟩,by simp,[(1,1),(0,0)],.cons _ _ _ (.c _ _ (.own1 _ _)) (.cons _ _ _ (.c _ _ (.ptr _ _ _ _ rfl)) (.cons _ _ _ .same .nil)),.old 0 0 _ _ _ rfl rfl (.vars _ _ (zb rfl)) (.old 1 _ _ _ _ rfl rfl (.data_eq ?_) .nil),rfl⟩
    show t.acc 1=t.acc 2
    rw[t.acc_step 1 rfl,if_pos h0]
  ·refine zYE (by simp) ?_
   refine zYE (by simp) ?_
   show AOb ..
   refine⟨by simp,?_⟩
   show ABr (t.r2 != 0) _ _
   refine⟨fun h=>?_,fun h=>?_⟩
   ·have h0:t.r2≠0:=by simpa using h
    show AOb ((t.acc 2).length+1<=zi) _
    refine⟨t.acc_most 2,?_⟩
    show ARound ..
    refine⟨⟨3,by decide⟩,by simp,[(_,1),(0,0)],.cons _ _ _ (.c _ _ (.own1 _ _)) (.cons _ _ _ (.c _ _ (.ptr _ _ _ _ rfl)) (.cons _ _ _ .same .nil)),.old 0 0 _ _ _ rfl rfl (.vars _ _ (zb rfl)) (.old 1 _ _ _ _ rfl rfl (.data_eq ?_) .nil),rfl⟩
    show t.acc 2++[t.r2]=t.acc 3
    rw[t.acc_step 2 rfl,if_neg h0]
   ·have h0:t.r2=0:=by simpa using h
    show ARound ..
    refine⟨⟨3,by decide⟩,by simp,[(1,1),(0,0)],.cons _ _ _ (.c _ _ (.own1 _ _)) (.cons _ _ _ (.c _ _ (.ptr _ _ _ _ rfl)) (.cons _ _ _ .same .nil)),.old 0 0 _ _ _ rfl rfl (.vars _ _ (zb rfl)) (.old 1 _ _ _ _ rfl rfl (.data_eq ?_) .nil),rfl⟩
    show t.acc 2=t.acc 3
    rw[t.acc_step 2 rfl,if_pos h0]
  ·refine zYE (by simp) ?_
   refine zYE (by simp) ?_
   show AOb ..
   refine⟨by simp,?_⟩
   show ABr (t.r3 != 0) _ _
   refine⟨fun h=>?_,fun h=>?_⟩
   ·have h0:t.r3≠0:=by simpa using h
    show AOb ((t.acc 3).length+1<=zi) _
    refine⟨t.acc_most 3,?_⟩
    show ARound ..
    refine⟨⟨4,by decide⟩,by simp,[(_,1),(0,0)],.cons _ _ _ (.c _ _ (.own1 _ _)) (.cons _ _ _ (.c _ _ (.ptr _ _ _ _ rfl)) (.cons _ _ _ .same .nil)),.old 0 0 _ _ _ rfl rfl (.vars _ _ (zb rfl)) (.old 1 _ _ _ _ rfl rfl (.data_eq ?_) .nil),rfl⟩
    show t.acc 3++[t.r3]=t.acc 4
    rw[t.acc_step 3 rfl,if_neg h0]
   ·have h0:t.r3=0:=by simpa using h
    show ARound ..
    refine⟨⟨4,by decide⟩,by simp,[(1,1),(0,0)],.cons _ _ _ (.c _ _ (.own1 _ _)) (.cons _ _ _ (.c _ _ (.ptr _ _ _ _ rfl)) (.cons _ _ _ .same .nil)),.old 0 0 _ _ _ rfl rfl (.vars _ _ (zb rfl)) (.old 1 _ _ _ _ rfl rfl (.data_eq ?_) .nil),rfl⟩
    show t.acc 3=t.acc 4
    rw[t.acc_step 3 rfl,if_pos h0]
  ·refine zYE (by simp) ?_
   refine zNO (by simp) ?_
   refine zNO (by simp) ?_
   show ABr (t.x != 0) _ _
   refine⟨fun h=>?_,fun h=>?_⟩
   ·have h0:t.x≠0:=by simpa using h
    show AOb ((t.acc 4).length+1<=zi) _
    refine⟨t.acc_most 4,?_⟩
    show ARound ..
    refine⟨⟨5,by decide⟩,by simp,[(_,1),(0,0)],.cons _ _ _ (.c _ _ (.own1 _ _)) (.cons _ _ _ (.c _ _ (.ptr _ _ _ _ rfl)) (.cons _ _ _ .same .nil)),.old 0 0 _ _ _ rfl rfl (.vars _ _ (zb rfl)) (.old 1 _ _ _ _ rfl rfl (.data_eq ?_) .nil),rfl⟩
    show t.acc 4++[t.x]=t.acc 5
    rw[t.acc_step 4 rfl,if_neg h0]
   ·have h0:t.x=0:=by simpa using h
    show ARound ..
    refine⟨⟨5,by decide⟩,by simp,[(1,1),(0,0)],.cons _ _ _ (.c _ _ (.own1 _ _)) (.cons _ _ _ (.c _ _ (.ptr _ _ _ _ rfl)) (.cons _ _ _ .same .nil)),.old 0 0 _ _ _ rfl rfl (.vars _ _ (zb rfl)) (.old 1 _ _ _ _ rfl rfl (.data_eq ?_) .nil),rfl⟩
    show t.acc 4=t.acc 5
    rw[t.acc_step 4 rfl,if_pos h0]
  ·refine zYE (by simp) ?_
   refine zNO (by simp) ?_
   refine zYE (by simp) ?_
   show ABr (t.y != 0) _ _
   refine⟨fun h=>?_,fun h=>?_⟩
   ·have h0:t.y≠0:=by simpa using h
    show AOb ((t.acc 5).length+1<=zi) _
    refine⟨t.acc_most 5,?_⟩
    show ARound ..
    refine⟨⟨6,by decide⟩,by simp,[(_,1),(0,0)],.cons _ _ _ (.c _ _ (.own1 _ _)) (.cons _ _ _ (.c _ _ (.ptr _ _ _ _ rfl)) (.cons _ _ _ .same .nil)),.old 0 0 _ _ _ rfl rfl (.vars _ _ (zb rfl)) (.old 1 _ _ _ _ rfl rfl (.data_eq ?_) .nil),rfl⟩
    show t.acc 5++[t.y]=t.acc 6
    rw[t.acc_step 5 rfl,if_neg h0]
   ·have h0:t.y=0:=by simpa using h
    show ARound ..
    refine⟨⟨6,by decide⟩,by simp,[(1,1),(0,0)],.cons _ _ _ (.c _ _ (.own1 _ _)) (.cons _ _ _ (.c _ _ (.ptr _ _ _ _ rfl)) (.cons _ _ _ .same .nil)),.old 0 0 _ _ _ rfl rfl (.vars _ _ (zb rfl)) (.old 1 _ _ _ _ rfl rfl (.data_eq ?_) .nil),rfl⟩
    show t.acc 5=t.acc 6
    rw[t.acc_step 5 rfl,if_pos h0]
  ·refine zNO (by simp) ?_
   show ARet ..
   exact zfM (.frz rfl rfl) ⟨rfl,rfl⟩
def zdl (g:Hp) (t:Thread) (r:Int):Int:=if 0<=r/\r<=3 then (if headE g (t.reg r)=0 then 0 else 5) else 1
def ze2 (g:Hp) (t:Thread) (r:Int):Int:=if 0<=r/\r<=3 then (if headE g (t.reg r)=0 then t.reg r else 0) else 0
def zd8 (g:Hp) (t:Thread) (r:Int):Int:=if 0<=r/\r<=3 then (if headE g (t.reg r)=0 then (headH g (t.reg r)).n else 0) else 0
theorem zjU (g:Hp) (t:Thread) (r:Int) (hl:g.light):Spec X 200 [] [g.tv,t.tv,.int r] (Ret [] (.tup [.int (ze2 g t r),.int (zd8 g t r),.int (zdl g t r)])):=by
 refine zGO X_ok Tryz.f200 fun hb hH=>⟨rfl,?_⟩
 unfold ze2 zd8 zdl
 by_cases h:0<=r/\r<=3
 ·rw[if_pos h,if_pos h,if_pos h]
  show ACall ..
  refine za (zlq t r h) rfl ?_
  refine zNO (by decide) ?_
  show ACall ..
  refine za (zaI g (t.reg r) hl) rfl ?_
  by_cases h0:headE g (t.reg r)=0
  ·rw[if_pos h0,if_pos h0,if_pos h0,h0]
   refine zNO (by decide) ?_
   show ARet ..
   exact zg rfl ⟨rfl,rfl⟩
  ·rw[if_neg h0,if_neg h0,if_neg h0]
   show ABr ..
   refine⟨fun _=>?_,fun h=>absurd h (by simpa using h0)⟩
   show ARet ..
   exact zg rfl ⟨rfl,rfl⟩
 ·rw[if_neg h,if_neg h,if_neg h]
  show ACall ..
  refine za (znD t r h) rfl ?_
  refine zYE (by decide) ?_
  show ARet ..
  exact zg rfl ⟨rfl,rfl⟩
theorem zwT (t:Thread) (r a:Int) (h:¬(0<=r/\r<=3)):Spec X 229 [] [t.tv,.int r,.int a] (Ret [] (.tup [Thread.zero.tv,.int 1])):=by
 refine zGO X_ok Tryz.f229 fun _ _=>⟨rfl,?_⟩
 show ACall ..
 refine za (znD t r h) rfl ?_
 show ABr ..
 refine⟨fun hb=>?_,fun hb=>absurd hb (by decide)⟩
 show ARet ..
 refine⟨[],[],[Thread.zero.tv,.int 1],.cons _ _ _ _ (.agg _ _ ?_) (.cons _ _ _ _ .same .nil),.nil,rfl,⟨rfl,rfl⟩⟩
 repeat (first|exact .nil|refine .cons _ _ _ _ (.d _) ?_|refine .cons _ _ _ _ (.nilsl _) ?_)
def getA (t:Thread) (r:Int):Int:=if 0<=r/\r<=3 then t.reg r else 0
def za9 (r:Int):Int:=if 0<=r/\r<=3 then 0 else 1
theorem zmD (t:Thread) (r:Int):Spec X 182 [] [t.tv,.int r] (Ret [] (.tup [.int (getA t r),.int (za9 r)])):=by
 unfold getA za9
 by_cases h:0<=r/\r<=3
 ·rw[if_pos h,if_pos h];exact zlq t r h
 ·rw[if_neg h,if_neg h];exact znD t r h
theorem zmf (t:Thread):Spec X 40 [] [t.tv] (Ret [] (.c (.d (.sl .int (t.acc 6))))):=by
 refine zGO X_ok Tryz.f40 fun hb hH=>⟨rfl,?_⟩
 show AOb ..
 refine⟨by decide,?_⟩
 show AOb ..
 refine⟨by decide,?_⟩
 show AOb ..
 refine⟨by decide,?_⟩
 show AOb ..
 refine⟨by decide,?_⟩
 show ∃n,_
 refine⟨0,ALoop.inv (ι:={i:Nat // i<=6}) (fun q=>⟨[(3,.c (.d (.sl .int (t.six)))),(4,.c (.own 1)),(5,.int (q.1))],[(1,.data .int (t.acc q.1))],64⟩) (fun q=>6-q.1) ⟨0,by omega⟩ ?_ ?_⟩
 ·exact⟨[],(by repeat' first|exact .nil|refine .cons _ _ _ ?_ ?_|exact .c _ _ (.nilown 1 .int rfl rfl)|exact .same|exact .c _ _ (.own _ _ rfl)|exact .c _ _ (.ptr _ _ _ _ rfl)|exact .c _ _ (.frz _ _ rfl)|exact .any _),(by exact .new 1 .int _ rfl .nil),(by rfl)⟩
 rintro⟨i,hi⟩
 have h6:t.six.length=6:=rfl
 show ABr (decide ((i:Int)<6)) _ _
 refine⟨fun h=>?_,fun h=>?_⟩
 ·have hlt:i<6:=by have:=of_decide_eq_true h;omega
  have wi:IntKind.i64.wrap ((i:Int)+1)=((i+1:Nat):Int):=zP (i:=i) (by unfold zA;omega)
  have hst:=t.acc_step i (a:=t.six.getD i default) (by rw[List.getD_eq_getElem?_getD,List.getElem?_eq_getElem (by omega)];rfl)
  show AOb ((0:Int)<=(i:Int)/\(i:Int)<6) _
  refine⟨by omega,?_⟩
  show ABr (t.six.getD i default != 0) _ _
  refine⟨fun h=>?_,fun h=>?_⟩
  ·rw[if_neg (show ¬t.six.getD i default=0 by simpa using h)]at hst
   show AOb ((0:Int)<=(i:Int)/\(i:Int)<6) _
   refine⟨by omega,?_⟩
   show AOb ((t.acc i).length+1<=zi) _
   refine⟨t.acc_most i,?_⟩
   show ARound ..
   exact⟨⟨i+1,hlt⟩,(by dsimp only;omega),[(_,1)],(by repeat' first|exact .nil|refine .cons _ _ _ ?_ ?_|exact .c _ _ (.own1 _ _)|exact .int_eq wi|exact .same|exact .c _ _ (.own _ _ rfl)|exact .c _ _ (.ptr _ _ _ _ rfl)|exact .c _ _ (.frz _ _ rfl)|exact .any _),(by exact .old 1 _ _ _ _ rfl rfl (.data_eq hst.symm) .nil),(by rfl)⟩
  ·rw[if_pos (show t.six.getD i default=0 by simpa using h)]at hst
   show ARound ..
   exact⟨⟨i+1,hlt⟩,(by dsimp only;omega),[(1,1)],(by repeat' first|exact .nil|refine .cons _ _ _ ?_ ?_|exact .int_eq wi|exact .same|exact .c _ _ (.own _ _ rfl)|exact .c _ _ (.ptr _ _ _ _ rfl)|exact .c _ _ (.frz _ _ rfl)|exact .any _),(by exact .old 1 1 _ _ _ rfl rfl (.data_eq hst.symm) .nil),(by rfl)⟩
 ·have hfin:t.acc i=t.acc 6:=by rw[show i=6 by have:=of_decide_eq_false h;omega]
  show ARet ..
  exact zfM (.frz (k:=.int) (l:=t.acc i) rfl hfin) ⟨rfl,rfl⟩
theorem zta (g:Hp) (c:Col):atK g c 0=0:=by
 unfold atK
 by_cases h:headE g 0=0
 ·have:=zak (zG h).2.1
  unfold adr at this
  omega
 ·rw[decide_eq_false h]
  rfl
theorem zxX {g:Hp} {c:Col} {a:Int} (h:atK g c a=1):headE g a=0/\(headH g a).mark<c.epoch:=by
 unfold atK at h
 by_cases h0:headE g a=0
 ·refine⟨h0,?_⟩
  rw[decide_eq_true h0]at h
  have h:za3 c (headH g a)=1:=h
  unfold za3 at h
  by_cases h1:(headH g a).mark<c.epoch
  ·exact h1
  ·exfalso
   rw[decide_eq_false h1]at h
   revert h
   generalize (bif (bif (bif (headH g a).old then !c.major else false) then true else decide (c.epoch<0)) then true else decide (c.epoch>1048576))=q
   cases q<;>cases (headH g a).done<;>decide
 ·rw[decide_eq_false h0]at h
  have h:(0:Int)=1:=h
  exact absurd h (by decide)
end Go.Abs
namespace Go.Abs
def inC (c:Col) (x:Hd):Prop:=(x.old=false\/c.major=true)/\0<=c.epoch/\c.epoch<=1048576
theorem zsr {c:Col} {x:Hd}:(bif (bif (bif x.old then !c.major else false) then true else decide (c.epoch<0)) then true else decide (c.epoch>1048576))=false↔inC c x:=by
 unfold inC
 cases x.old<;>cases c.major<;>simp[Bool.cond_eq_ite]<;>omega
theorem zaL {c:Col} {x:Hd}:(za3 c x=1↔inC c x/\x.mark<c.epoch)/\(za3 c x=2↔inC c x/\c.epoch<=x.mark/\x.done=false)/\(za3 c x=3↔inC c x/\c.epoch<=x.mark/\x.done=true):=by
 unfold za3
 rw[←zsr]
 generalize (bif (bif (bif x.old then !c.major else false) then true else decide (c.epoch<0)) then true else decide (c.epoch>1048576))=q
 cases q with
 |true=>simp
 |false=>
  by_cases h:x.mark<c.epoch
  ·simp[h]
   omega
  ·have h' : c.epoch<=x.mark:=by omega
   cases x.done<;>simp[h,h']
theorem zmh (c:Col) (x:Hd):0<=za3 c x/\za3 c x<=3:=by
 unfold za3
 generalize (bif (bif (bif x.old then !c.major else false) then true else decide (c.epoch<0)) then true else decide (c.epoch>1048576))=q
 cases q<;>cases decide (x.mark<c.epoch)<;>cases x.done<;>decide
theorem zbC {g:Hp} {c:Col} {a:Int} (h:headE g a=0):atK g c a=za3 c (headH g a):=by unfold atK;rw[decide_eq_true h];rfl
theorem zeR {g:Hp} {c:Col} {a:Int} (h:headE g a≠0):atK g c a=0:=by unfold atK;rw[decide_eq_false h];rfl
theorem zaK {g:Hp} {c:Col} {a:Int} (h:atK g c a≠0):headE g a=0:=by
 by_cases h0:headE g a=0
 ·exact h0
 ·exact absurd (zeR h0) h
theorem zrB (g:Hp) (c:Col) (a:Int):0<=atK g c a/\atK g c a<=3:=by
 by_cases h:headE g a=0
 ·rw[zbC h];exact zmh _ _
 ·rw[zeR h];decide
theorem zrv {c d:Col} (h1:d.epoch=c.epoch) (h2:d.major=c.major) (x:Hd):za3 d x=za3 c x:=by unfold za3;rw[h1,h2]
theorem zbW {c d:Col} (h1:d.epoch=c.epoch) (h2:d.major=c.major) (g:Hp) (a:Int):atK g d a=atK g c a:=by unfold atK;rw[zrv h1 h2]
theorem ziD {g:Hp} {a:Int} (h:headE g a=0):(headH g a).May/\(headH g a).used=true:=by
 obtain⟨hm,hr,hu⟩:=zG h
 rw[zas h]
 have hc:=(zai hm).2.2.1 a (zn.2 hr)
 unfold zah at hc
 rw[Bool.and_eq_true]at hc
 obtain⟨e,h2⟩:=zoD hc.1
 rw[e]
 rw[e]at hu
 exact⟨h2,hu⟩
theorem zk0 {g:Hp} {a:Int} {x:Hd} (h0:headE g a=0) (hx:x.May) (hu:x.used=true) (hn:x.n=(headH g a).n):PutOk g a x/\zf9 g a x=0:=by
 have h:zf9 g a x=0:=by unfold zf9;rw[decide_eq_true h0,decide_eq_true ⟨hx,hu,hn⟩];rfl
 exact⟨(zw7 h).1,h⟩
theorem zgW {g:Hp} (hm:zw g []=true) (a:Int):headE g a=0\/headE g a=3:=by
 unfold headE
 rw[hm]
 cases decide (ze g.pages a=0)<;>cases (unp (zf g a)).used<;>simp
theorem ziB {g:Hp} {a:Int} {x:Hd} (h:PutOk g a x) (u:Int):headE (zbT g a x.word) u=headE g u/\headH (zbT g a x.word) u=if u=a then x else headH g u:=by
 have hm:=h.may
 have hm' : zw (zbT g a x.word) []=true:=by rw[zgY h];exact hm
 have hiff:headE (zbT g a x.word) u=0↔headE g u=0:=by rw[←zaJ,←zaJ,zlU h]
 by_cases h0:headE g u=0
 ·obtain⟨h1,h2⟩:=zvg h h0
  exact⟨by rw[h1,h0],h2⟩
 ·have h0' : headE (zbT g a x.word) u≠0:=fun e=>h0 (hiff.1 e)
  have e1:=zgW hm u
  have e2:=zgW hm' u
  refine⟨by omega,?_⟩
  have hne:u≠a:=by
   intro e
   subst e
   apply h0
   unfold headE
   rw[hm,decide_eq_false h.room,h.used]
   rfl
  rw[if_neg hne,zbg rfl h0',zbg rfl h0]
theorem zb8 {g:Hp} {c:Col} {a:Int} (h:atK g c a=1):headE g a=0/\PutOk g a (zhi g c a)/\zf9 g a (zhi g c a)=0:=by
 have h0:headE g a=0:=zaK (c:=c) (by omega)
 rw[zbC h0]at h
 obtain⟨⟨_,h1,h2⟩,h3⟩:=zaL.1.1 h
 obtain⟨hm,hu⟩:=ziD h0
 have hx:(zhi g c a).May:=by
  unfold Hd.May at hm ⊢
  rw[if_pos hu]at hm
  have hu' : (zhi g c a).used=true:=hu
  rw[if_pos hu']
  exact⟨hm.1,hm.2.1,h1,h2⟩
 exact⟨h0,zk0 h0 hx hu rfl⟩
theorem zcV {g:Hp} {c:Col} {a:Int} (h:atK g c a=1):zJ g c a=zbT g a (zhi g c a).word:=by
 unfold zJ
 rw[decide_eq_true h]
 exact zeV (zb8 h).2.2
theorem zdW {g:Hp} {c:Col} {a:Int} (h:atK g c a≠1):zJ g c a=g:=by unfold zJ;rw[decide_eq_false h];rfl
theorem zgD {g:Hp} {c:Col} {a:Int} (h:atK g c a≠1):zE g c a=c:=by unfold zE;rw[decide_eq_false h];rfl
theorem zfn {g:Hp} {c:Col} {a:Int} (h:atK g c a=1):zE g c a=if c.work.length<4 then {c with work:=c.work++[a]} else {c with over:=true}:=by
 unfold zE
 rw[decide_eq_true h]
 by_cases h4:c.work.length<4
 ·rw[if_pos h4,decide_eq_true (show(c.work.length:Int)<4 by omega)];rfl
 ·rw[if_neg h4,decide_eq_false (show ¬(c.work.length:Int)<4 by omega)];rfl
structure SameC (c d:Col):Prop where
 phase:d.phase=c.phase
 epoch:d.epoch=c.epoch
 major:d.major=c.major
 at_:d.at_=c.at_
 field_:d.field_=c.field_
 seek:d.seek=c.seek
 card:d.card=c.card
 met:d.met=c.met
theorem zaM (g:Hp) (c:Col) (a:Int):SameC c (zE g c a):=by
 unfold zE
 cases decide (atK g c a=1)
 ·exact⟨rfl,rfl,rfl,rfl,rfl,rfl,rfl,rfl⟩
 ·cases decide ((c.work.length:Int)<4)<;>exact⟨rfl,rfl,rfl,rfl,rfl,rfl,rfl,rfl⟩
theorem zq6 (g k:Hp) (c:Col) (a u:Int):atK k (zE g c a) u=atK k c u:=zbW (zaM g c a).epoch (zaM g c a).major k u
theorem zew (g:Hp) (c:Col) (a u:Int):headE (zJ g c a) u=headE g u/\headH (zJ g c a) u=if u=a/\atK g c a=1 then zhi g c a else headH g u:=by
 by_cases h:atK g c a=1
 ·rw[zcV h]
  obtain⟨h1,h2⟩:=ziB (zb8 h).2.1 u
  refine⟨h1,?_⟩
  rw[h2]
  by_cases e:u=a
  ·rw[if_pos e,if_pos ⟨e,h⟩]
  ·rw[if_neg e,if_neg (fun k=>e k.1)]
 ·rw[zdW h,if_neg (fun k=>h k.2)]
  exact⟨rfl,rfl⟩
theorem zts (g:Hp) (c:Col) (a u:Int):atK (zJ g c a) c u=if u=a/\atK g c a=1 then 2 else atK g c u:=by
 obtain⟨h1,h2⟩:=zew g c a u
 by_cases h0:headE g u=0
 ·rw[zbC (h1.trans h0),h2]
  by_cases h:u=a/\atK g c a=1
  ·rw[if_pos h,if_pos h]
   have h3:=h.2
   rw[zbC (zb8 h.2).1]at h3
   have h4:=zaL.1.1 h3
   exact zaL.2.1.2 ⟨h4.1,Int.le_refl _,rfl⟩
  ·rw[if_neg h,if_neg h,zbC h0]
 ·rw[zeR (fun e=>h0 (h1.symm.trans e)),zeR h0,if_neg]
  rintro⟨e,h⟩
  subst e
  exact h0 (zb8 h).1
theorem zse (g:Hp) (c:Col) (a:Int) (cs:List Lists):zw (zJ g c a) cs=zw g cs:=by
 by_cases h:atK g c a=1
 ·rw[zcV h,zgY (zb8 h).2.1]
 ·rw[zdW h]
theorem zbY (g:Hp) (c:Col) (a:Int) (cs:List Lists):zt (zJ g c a) cs=zt g cs:=by
 by_cases h:atK g c a=1
 ·rw[zcV h,zji (zb8 h).2.1]
 ·rw[zdW h]
theorem zoZ (g:Hp) (c:Col) (a:Int):zaa (zJ g c a)=zaa g:=by
 by_cases h:atK g c a=1
 ·rw[zcV h,zlU (zb8 h).2.1]
 ·rw[zdW h]
theorem zp8 (g:Hp) (c:Col) (a:Int):(zJ g c a).pages=g.pages/\(zJ g c a).free=g.free/\(zJ g c a).cards=g.cards/\(zJ g c a).w.length=g.w.length:=by
 by_cases h:atK g c a=1
 ·rw[zcV h]
  exact⟨rfl,rfl,rfl,List.length_set⟩
 ·rw[zdW h]
  exact⟨rfl,rfl,rfl,rfl⟩
theorem zpK (g:Hp) (c:Col) (a:Int) (i:Nat) (h:(zJ g c a).w.getD i default≠g.w.getD i default):(i:Int)=a-16/\atK g c a=1:=by
 by_cases h1:atK g c a=1
 ·refine⟨?_,h1⟩
  rw[zcV h1]at h
  have had:=zak (h:=g) (zb8 h1).2.1.room
  by_cases e:(a-16).toNat=i
  ·have:=had.1;omega
  ·exfalso
   apply h
   show(g.w.set (a-16).toNat _).getD i default=_
   rw[List.getD_eq_getElem?_getD,List.getD_eq_getElem?_getD,List.getElem?_set_ne e]
 ·rw[zdW h1]at h
  exact absurd rfl h
theorem zcd {g:Hp} {c:Col} {a:Int} (h:atK g c a=2):headE g a=0/\PutOk g a (zhc g a)/\zf9 g a (zhc g a)=0:=by
 have h0:headE g a=0:=zaK (c:=c) (by omega)
 obtain⟨hm,hu⟩:=ziD h0
 have hx:(zhc g a).May:=by
  unfold Hd.May at hm ⊢
  rw[if_pos hu]at hm
  have hu' : (zhc g a).used=true:=hu
  rw[if_pos hu']
  exact hm
 exact⟨h0,zk0 h0 hx hu rfl⟩
theorem zcY {g:Hp} {c:Col} {a:Int} (h:atK g c a=2):zan g c a=zbT g a (zhc g a).word:=by
 unfold zan
 rw[decide_eq_true h]
 exact zeV (zcd h).2.2
theorem zdP {g:Hp} {c:Col} {a:Int} (h:atK g c a≠2):zan g c a=g:=by unfold zan;rw[decide_eq_false h];rfl
theorem zeJ (g:Hp) (c:Col) (a u:Int):headE (zan g c a) u=headE g u/\headH (zan g c a) u=if u=a/\atK g c a=2 then zhc g a else headH g u:=by
 by_cases h:atK g c a=2
 ·rw[zcY h]
  obtain⟨h1,h2⟩:=ziB (zcd h).2.1 u
  refine⟨h1,?_⟩
  rw[h2]
  by_cases e:u=a
  ·rw[if_pos e,if_pos ⟨e,h⟩]
  ·rw[if_neg e,if_neg (fun k=>e k.1)]
 ·rw[zdP h,if_neg (fun k=>h k.2)]
  exact⟨rfl,rfl⟩
theorem zuD (g:Hp) (c:Col) (a u:Int):atK (zan g c a) c u=if u=a/\atK g c a=2 then 3 else atK g c u:=by
 obtain⟨h1,h2⟩:=zeJ g c a u
 by_cases h0:headE g u=0
 ·rw[zbC (h1.trans h0),h2]
  by_cases h:u=a/\atK g c a=2
  ·rw[if_pos h,if_pos h]
   have h3:=h.2
   rw[zbC (zcd h.2).1]at h3
   have h4:=zaL.2.1.1 h3
   exact zaL.2.2.2 ⟨h4.1,h4.2.1,rfl⟩
  ·rw[if_neg h,if_neg h,zbC h0]
 ·rw[zeR (fun e=>h0 (h1.symm.trans e)),zeR h0,if_neg]
  rintro⟨e,h⟩
  subst e
  exact h0 (zcd h).1
theorem zsa (g:Hp) (c:Col) (a:Int) (cs:List Lists):zw (zan g c a) cs=zw g cs:=by
 by_cases h:atK g c a=2
 ·rw[zcY h,zgY (zcd h).2.1]
 ·rw[zdP h]
theorem zit (g:Hp) (c:Col) (a:Int) (cs:List Lists):zt (zan g c a) cs=zt g cs:=by
 by_cases h:atK g c a=2
 ·rw[zcY h,zji (zcd h).2.1]
 ·rw[zdP h]
theorem zqS (g:Hp) (c:Col) (a:Int):zaa (zan g c a)=zaa g:=by
 by_cases h:atK g c a=2
 ·rw[zcY h,zlU (zcd h).2.1]
 ·rw[zdP h]
theorem zqK (g:Hp) (c:Col) (a:Int):(zan g c a).pages=g.pages/\(zan g c a).free=g.free/\(zan g c a).cards=g.cards/\(zan g c a).w.length=g.w.length:=by
 by_cases h:atK g c a=2
 ·rw[zcY h]
  exact⟨rfl,rfl,rfl,List.length_set⟩
 ·rw[zdP h]
  exact⟨rfl,rfl,rfl,rfl⟩
theorem zqc (g:Hp) (c:Col) (a:Int) (i:Nat) (h:(zan g c a).w.getD i default≠g.w.getD i default):(i:Int)=a-16/\atK g c a=2:=by
 by_cases h1:atK g c a=2
 ·refine⟨?_,h1⟩
  rw[zcY h1]at h
  have had:=zak (h:=g) (zcd h1).2.1.room
  by_cases e:(a-16).toNat=i
  ·have:=had.1;omega
  ·exfalso
   apply h
   show(g.w.set (a-16).toNat _).getD i default=_
   rw[List.getD_eq_getElem?_getD,List.getD_eq_getElem?_getD,List.getElem?_set_ne e]
 ·rw[zdP h1]at h
  exact absurd rfl h
theorem zv9 {g:Hp} {c:Col} {u:Int}:u∈zlw g c↔atK g c u=2:=by
 unfold zlw
 rw[List.mem_filter,zaJ,decide_eq_true_eq]
 exact⟨fun h=>h.2,fun h=>⟨zaK (c:=c) (by omega),h⟩⟩
open Go.Proofs Go.Proofs.YtlankjlnnimdoaaGreatDoor
set_option maxRecDepth 8000
def zO (l:List Page) (a:Int):Int:=((cellStarts l).find? fun s=>decide (a<s)).getD 0
theorem zgq (l:List Page) (a:Int):(zO l a=0/\∀u∈cellStarts l,u<=a)\/(a<zO l a/\zO l a∈cellStarts l/\∀u∈cellStarts l,a<u->zO l a<=u):=by
 unfold zO
 have hs:=zc3 l
 generalize cellStarts l=L at *
 induction L with
 |nil=>exact .inl ⟨rfl,fun u h=>by cases h⟩
 |cons x r ih=>
  rw[List.pairwise_cons]at hs
  rw[List.find?_cons]
  by_cases hx:a<x
  ·rw[decide_eq_true hx]
   refine .inr ⟨hx,List.mem_cons_self ..,fun u hu _=>?_⟩
   rcases List.mem_cons.1 hu with e|hu
   ·rw[e];exact Int.le_refl _
   ·exact Int.le_of_lt (hs.1 u hu)
  ·rw[decide_eq_false hx]
   rcases ih hs.2 with⟨h1,h2⟩|⟨h1,h2,h3⟩
   ·refine .inl ⟨h1,fun u hu=>?_⟩
    rcases List.mem_cons.1 hu with e|hu
    ·omega
    ·exact h2 u hu
   ·refine .inr ⟨h1,List.mem_cons_of_mem _ h2,fun u hu ha=>?_⟩
    rcases List.mem_cons.1 hu with e|hu
    ·omega
    ·exact h3 u hu ha
theorem ze3 (a:Int) (x:Int×Int):Spec X 247 [] [.int a,.agg [.d (DV.int x.1),.d (DV.int x.2)]] (Ret [] (.bo (decide (a<x.1)))):=by
 refine zGO X_ok Tryz.f247 fun hb hH=>⟨rfl,?_⟩
 show ARet ..
 exact zo rfl ⟨rfl,rfl⟩
def zj0 (l:List Page) (a:Int):Bool:=((cellStarts l).find? fun s=>decide (a<s)).isSome
theorem zrK (l:List Page) (a:Int):(cellStarts l).find? (fun s=>decide (a<s))=((cellsAll l).find? fun x=>decide (a<x.1)).map (·.1):=by
 unfold cellStarts
 rw[List.find?_map]
 rfl
theorem zlG (l:List Page) (a:Int):Spec X 213 [] [.c (.d (.sl .page l)),.int a] (Ret [] (.tup [.int (zO l a),.bo (zj0 l a)])):=by
 refine zGO X_ok Tryz.f213 fun hb hH=>⟨rfl,?_⟩
 unfold zO zj0
 rw[zrK]
 cases h:(cellsAll l).find? fun x=>decide (a<x.1) with
 |none=>
  show ACall ..
  refine za (zkt (ze3 a) h) rfl ?_
  show ARet ..
  exact zg rfl ⟨rfl,rfl⟩
 |some x=>
  show ACall ..
  refine za (zkt (ze3 a) h) rfl ?_
  show ARet ..
  exact zg rfl ⟨rfl,rfl⟩
end Go.Abs
namespace Go.Abs
structure Marks (g k:Hp):Prop where
 pages:k.pages=g.pages
 free:k.free=g.free
 cards:k.cards=g.cards
 len:k.w.length=g.w.length
 may:∀cs,zw k cs=zw g cs
 whole:∀cs,zt k cs=zt g cs
 used:zaa k=zaa g
 headE:∀u,Abs.headE k u=Abs.headE g u
 head:∀u,(headH k u).used=(headH g u).used/\(headH k u).old=(headH g u).old/\(headH k u).n=(headH g u).n/\(headH k u).born=(headH g u).born
 word:∀i:Nat,k.w.getD i default≠g.w.getD i default->16+(i:Int)∈zaa g
theorem zcw (g:Hp) (c:Col) (a:Int):Marks g (zJ g c a):=by
 obtain⟨e1,e2,e3,e4⟩:=zp8 g c a
 refine⟨e1,e2,e3,e4,zse g c a,zbY g c a,zoZ g c a,fun u=>(zew g c a u).1,fun u=>?_,fun i hi=>?_⟩
 ·rw[(zew g c a u).2]
  by_cases e:u=a/\atK g c a=1
  ·rw[if_pos e,e.1];exact⟨rfl,rfl,rfl,rfl⟩
  ·rw[if_neg e];exact⟨rfl,rfl,rfl,rfl⟩
 ·obtain⟨h1,h2⟩:=zpK g c a i hi
  rw[show 16+(i:Int)=a by omega]
  exact zaJ.2 (zb8 h2).1
theorem zo5 (g:Hp) (c:Col) (a:Int):Marks g (zan g c a):=by
 obtain⟨e1,e2,e3,e4⟩:=zqK g c a
 refine⟨e1,e2,e3,e4,zsa g c a,zit g c a,zqS g c a,fun u=>(zeJ g c a u).1,fun u=>?_,fun i hi=>?_⟩
 ·rw[(zeJ g c a u).2]
  by_cases e:u=a/\atK g c a=2
  ·rw[if_pos e,e.1];exact⟨rfl,rfl,rfl,rfl⟩
  ·rw[if_neg e];exact⟨rfl,rfl,rfl,rfl⟩
 ·obtain⟨h1,h2⟩:=zqc g c a i hi
  rw[show 16+(i:Int)=a by omega]
  exact zaJ.2 (zcd h2).1
def zaX (g:Hp) (c:Col) (a:Int):Int:=if atK g c a=2 then (headH g a).n else 0
def wordOf (g:Hp) (a:Int):Int:=if zba g.w=true/\16<=a/\a<16+(g.w.length:Int) then zf g a else 0
def zk5 (g:Hp) (c:Col):Hp×Col:=
 if c.field_<0\/zaX g c c.at_<=c.field_ then (g,{c with at_:=0,field_:=0})
 else if c.field_+1=zaX g c c.at_ then (zan (zJ g c (wordOf g (c.at_+1+c.field_))) c c.at_,{zE g c (wordOf g (c.at_+1+c.field_)) with at_:=0,field_:=0})
 else (zJ g c (wordOf g (c.at_+1+c.field_)),{zE g c (wordOf g (c.at_+1+c.field_)) with field_:=c.field_+1})
def zgf (g : Hp) (c : Col) : Hp × Col :=
  if zw g [] = true /\ c.phase = 5 then
    (if c.at_ ≠ 0 then zk5 g c
     else if 0 < c.work.length then (g, { c with at_ := at0 c.work (c.work.length - 1), field_ := 0, work := c.work.take (c.work.length - 1) })
     else if c.seek ≠ 0 then (if zaX g c (zO g.pages c.seek) = 0 then (g, { c with seek := zO g.pages c.seek }) else (g, { c with seek := zO g.pages c.seek, at_ := zO g.pages c.seek, field_ := 0 }))
     else if c.over = true then (g, { c with over := false, seek := 1 })
     else (g, { c with phase := 6, at_ := 0, field_ := 0, seek := 0, card := 0, met := false }))
  else (g, c)
inductive TStep (g:Hp) (c:Col):Hp->Col->Prop
 |idle (h:¬(zw g []=true/\c.phase=5)):TStep g c g c
 |lost (hm:zw g []=true) (hp:c.phase=5) (ha:c.at_≠0) (h:c.field_<0\/zaX g c c.at_<=c.field_):TStep g c g {c with at_:=0,field_:=0}
 |last (hm:zw g []=true) (hp:c.phase=5) (ha:c.at_≠0) (h0:0<=c.field_) (h:c.field_+1=zaX g c c.at_) (v:Int) (hv:v=wordOf g (c.at_+1+c.field_)) :
   TStep g c (zan (zJ g c v) c c.at_) {zE g c v with at_:=0,field_:=0}
 |more (hm:zw g []=true) (hp:c.phase=5) (ha:c.at_≠0) (h0:0<=c.field_) (h:c.field_+1<zaX g c c.at_) (v:Int) (hv:v=wordOf g (c.at_+1+c.field_)) :
   TStep g c (zJ g c v) {zE g c v with field_:=c.field_+1}
 |pop (hm:zw g []=true) (hp:c.phase=5) (ha:c.at_=0) (r:List Int) (x:Int) (hw:c.work=r++[x]):TStep g c g {c with at_:=x,field_:=0,work:=r}
 |pass (hm:zw g []=true) (hp:c.phase=5) (ha:c.at_=0) (hw:c.work=[]) (hs:c.seek≠0) (hg:zaX g c (zO g.pages c.seek)=0):TStep g c g {c with seek:=zO g.pages c.seek}
 |find (hm:zw g []=true) (hp:c.phase=5) (ha:c.at_=0) (hw:c.work=[]) (hs:c.seek≠0) (hg:zaX g c (zO g.pages c.seek)≠0):TStep g c g {c with seek:=zO g.pages c.seek,at_:=zO g.pages c.seek,field_:=0}
 |again (hm:zw g []=true) (hp:c.phase=5) (ha:c.at_=0) (hw:c.work=[]) (hs:c.seek=0) (ho:c.over=true):TStep g c g {c with over:=false,seek:=1}
 |fin (hm:zw g []=true) (hp:c.phase=5) (ha:c.at_=0) (hw:c.work=[]) (hs:c.seek=0) (ho:c.over=false):TStep g c g {c with phase:=6,at_:=0,field_:=0,seek:=0,card:=0,met:=false}
theorem zty {l:List Int} (h:0<l.length):l=l.take (l.length-1)++[at0 l (l.length-1)]:=by
 have h1:l.length-1<l.length:=by omega
 have:=zdf h1
 rw[show l.length-1+1=l.length by omega,List.take_length]at this
 exact this
theorem zsp (g:Hp) (c:Col):TStep g c (zgf g c).1 (zgf g c).2:=by
 unfold zgf
 by_cases hm:zw g []=true/\c.phase=5
 ·rw[if_pos hm]
  by_cases ha:c.at_≠0
  ·rw[if_pos ha]
   unfold zk5
   by_cases hf:c.field_<0\/zaX g c c.at_<=c.field_
   ·rw[if_pos hf]
    exact .lost hm.1 hm.2 ha hf
   ·rw[if_neg hf]
    by_cases hl:c.field_+1=zaX g c c.at_
    ·rw[if_pos hl]
     exact .last hm.1 hm.2 ha (by omega) hl _ rfl
    ·rw[if_neg hl]
     exact .more hm.1 hm.2 ha (by omega) (by omega) _ rfl
  ·rw[if_neg ha]
   have ha:c.at_=0:=by simpa using ha
   by_cases hw:0<c.work.length
   ·rw[if_pos hw]
    exact .pop hm.1 hm.2 ha _ _ (zty hw)
   ·rw[if_neg hw]
    have hw:c.work=[]:=List.eq_nil_of_length_eq_zero (by omega)
    by_cases hs:c.seek≠0
    ·rw[if_pos hs]
     by_cases hg:zaX g c (zO g.pages c.seek)=0
     ·rw[if_pos hg]
      exact .pass hm.1 hm.2 ha hw hs hg
     ·rw[if_neg hg]
      exact .find hm.1 hm.2 ha hw hs hg
    ·rw[if_neg hs]
     have hs:c.seek=0:=by simpa using hs
     by_cases ho:c.over=true
     ·rw[if_pos ho]
      exact .again hm.1 hm.2 ha hw hs ho
     ·rw[if_neg ho]
      exact .fin hm.1 hm.2 ha hw hs (by simpa using ho)
 ·rw[if_neg hm]
  exact .idle hm
theorem TStep.col {g k:Hp} {c d:Col} (h:TStep g c k d):d.epoch=c.epoch/\d.major=c.major/\(d.phase=c.phase\/c.phase=5/\d.phase=6):=by
 cases h
 case last v hv=>exact⟨(zaM g c v).epoch,(zaM g c v).major,.inl (zaM g c v).phase⟩
 case more v hv=>exact⟨(zaM g c v).epoch,(zaM g c v).major,.inl (zaM g c v).phase⟩
 case fin=>exact⟨rfl,rfl,.inr ⟨by assumption,rfl⟩⟩
 all_goals exact⟨rfl,rfl,.inl rfl⟩
theorem zlV {g:Hp} {c:Col} {u:Int} (h:atK g c u=2):headE g u=0/\u∈cellStarts g.pages/\16<=u:=by
 have h0:headE g u=0:=zaK (c:=c) (by omega)
 obtain⟨_,hr,_⟩:=zG h0
 exact⟨h0,zn.2 hr,(zak (h:=g) hr).1⟩
theorem zuu {g:Hp} {c:Col} {a:Int}:zaX g c a≠0↔atK g c a=2:=by
 unfold zaX
 constructor
 ·intro h
  by_cases e:atK g c a=2
  ·exact e
  ·rw[if_neg e]at h;exact absurd rfl h
 ·intro h
  rw[if_pos h]
  have:=(zar (zlV h).1).2.1
  omega
def zpx (l:List Page) (a s:Int):Bool:=decide (s<=a/\a<s+ze l s)
theorem zuZ {l:List Page} (hmp:zao l=true) {a:Int} (h1:16<=a) (h2:a<16*((l.length:Int)+1)):((cellStarts l).filter (zpx l a)).length<=1:=by
 have ht:=zxC l 0 0 (by unfold zao at hmp;rw[Bool.and_eq_true]at hmp;exact hmp.1) (Int.le_refl _) (fun p hp=>by
  obtain⟨i,hi,e⟩:=List.mem_iff_getElem.1 hp
  have:=(zag hmp).1 i hi
  rw[List.getD_eq_getElem?_getD,List.getElem?_eq_getElem hi]at this
  rw[←e];exact this) a (by omega) (by omega)
 have e0:cellsAll l=zcK 0 l:=by
  unfold cellsAll
  rw[if_pos hmp,zeO l _ 0 rfl]
  rfl
 have e1:cnt (cellsAll l) a=((cellStarts l).filter (zpx l a)).length:=by
  unfold cnt cellStarts
  rw[List.filter_map,List.length_map]
  congr 1
  refine List.filter_congr fun x hx=>?_
  show zej a x=zpx l a x.1
  unfold zej zpx
  rw[zby hx]
 rw[←e1,e0]
 omega
theorem zxW {l:List Int} (hn:l.Nodup) {x y:Int} (hx:x∈l) (hy:y∈l) (hne:x≠y):2<=l.length:=by
 cases l with
 |nil=>cases hx
 |cons a r=>
  cases r with
  |nil=>
   rw[List.mem_singleton]at hx hy
   exact absurd (hx.trans hy.symm) hne
  |cons b s=>simp
theorem zsY:∀(l:List Page) (r:Int),pgo r l=true->(∀p∈l,zbu p)->r<=(l.length:Int)
 |[],r,h,_=>by
  unfold pgo at h
  have:=of_decide_eq_true h
  simp
  omega
 |p::l,r,h,hp=>by
  unfold pgo at h
  have hl:((p::l).length:Int)=(l.length:Int)+1:=by simp
  by_cases h3:p.kind=3
  ·rw[decide_eq_true h3]at h
   simp only[cond_true,Bool.and_eq_true]at h
   have:=zsY l (r-1) h.2 fun q hq=>hp q (List.mem_cons_of_mem _ hq)
   omega
  ·rw[decide_eq_false h3]at h
   simp only[cond_false,Bool.and_eq_true,Bool.not_eq_true',decide_eq_false_iff_not]at h
   omega
theorem ztb:∀(l:List Page) (r:Int) (i:Nat),pgo r l=true->(∀p∈l,zbu p)->i<l.length->(l.getD i default).kind=2->(i:Int)+(l.getD i default).arg<=(l.length:Int)
 |[],r,i,_,_,hi,_=>by simp at hi
 |p::l,r,i,h,hp,hi,hk=>by
  unfold pgo at h
  have hl:((p::l).length:Int)=(l.length:Int)+1:=by simp
  have hp' : ∀q∈l,zbu q:=fun q hq=>hp q (List.mem_cons_of_mem _ hq)
  have rec_:∀r',pgo r' l=true->∀j,i=j+1->(i:Int)+((p::l).getD i default).arg<=((p::l).length:Int):=by
   intro r' h' j hj
   subst hj
   have:=ztb l r' j h' hp' (by simpa using hi) hk
   have e:((p::l).getD (j+1) default)=l.getD j default:=rfl
   rw[e]
   omega
  by_cases h3:p.kind=3
  ·rw[decide_eq_true h3]at h
   simp only[cond_true,Bool.and_eq_true]at h
   cases i with
   |zero=>exfalso;have hk:p.kind=2:=hk;omega
   |succ j=>exact rec_ _ h.2 j rfl
  ·rw[decide_eq_false h3]at h
   simp only[cond_false,Bool.and_eq_true]at h
   cases i with
   |zero=>
    have hk:p.kind=2:=hk
    have h2:=h.2
    rw[if_pos hk]at h2
    have:=zsY l _ h2 hp'
    show((0:Nat):Int)+p.arg<=_
    omega
   |succ j=>exact rec_ _ h.2 j rfl
theorem zvO {l:List Page} (hmp:zao l=true):∀p∈l,zbu p:=by
 intro p hp
 obtain⟨i,hi,e⟩:=List.mem_iff_getElem.1 hp
 have:=(zag hmp).1 i hi
 rw[List.getD_eq_getElem?_getD,List.getElem?_eq_getElem hi]at this
 rw[←e];exact this
theorem zqH {l:List Page} {a:Int} (h:ze l a≠0):a+ze l a<=16*((l.length:Int)+1):=by
 obtain⟨hmp,i,hi⟩:=zac (zq h)
 have hlt:=hi.lt
 have hk:=hi.kind
 simp only at hk
 rcases hk with⟨_,_,_,k4,_⟩|⟨k1,k2,k3,k4,k5⟩
 ·omega
 ·have:=ztb l 0 i (by unfold zao at hmp;rw[Bool.and_eq_true]at hmp;exact hmp.1) (zvO hmp) hlt k1
  omega
theorem zxJ {l:List Page} {u a:Int} (hr:ze l u≠0) (h1:u<a) (h2:a<u+ze l u):ze l a=0:=by
 by_cases h:ze l a=0
 ·exact h
 ·exfalso
  obtain⟨hmp,i,hi⟩:=zac (zq hr)
  have hlo:=hi.lo
  simp only at hlo
  have hend:=zqH hr
  have hone:=zuZ hmp (a:=a) (by omega) (by omega)
  have hpos:=zc7 l a
  have hn:((cellStarts l).filter (zpx l a)).Nodup:=((zc3 l).imp (fun h=>by omega):(cellStarts l).Nodup).sublist List.filter_sublist
  have:=zxW hn (x:=u) (y:=a) (List.mem_filter.2 ⟨zn.2 hr,decide_eq_true ⟨by omega,h2⟩⟩) (List.mem_filter.2 ⟨zn.2 h,decide_eq_true ⟨by omega,by omega⟩⟩) (by omega)
  omega
theorem ze7 {g:Hp} {u f:Int} (h0:headE g u=0) (h1:1<=f) (h2:f<=(headH g u).n):adr g (u+f)/\u+f ∉ zaa g:=by
 obtain⟨_,hn1,hn2,had⟩:=zar h0
 obtain⟨_,hr,_⟩:=zG h0
 have he:=zqH hr
 have had1:=had.1
 refine⟨⟨by omega,by omega⟩,fun hin=>?_⟩
 have:=(zG (zaJ.1 hin)).2.1
 exact this (zxJ hr (by omega) (by omega))
theorem znl {g:Hp} {u f:Int} (h0:headE g u=0) (h1:1<=f) (h2:f<=(headH g u).n):wordOf g (u+f)=zf g (u+f):=by
 have had:=(ze7 h0 h1 h2).1
 obtain⟨hw,_,hs,_⟩:=zm (zF (zG h0).1)
 unfold wordOf
 have ha1:=had.1;have ha2:=had.2
 rw[if_pos ⟨hw,by omega,by omega⟩]
theorem Marks.field {g k:Hp} (h:Marks g k) {u f:Int} (h0:Abs.headE g u=0) (h1:1<=f) (h2:f<=(headH g u).n):zf k (u+f)=zf g (u+f):=by
 obtain⟨had,hnot⟩:=ze7 h0 h1 h2
 have ha1:=had.1
 unfold zf at0
 by_cases e:k.w.getD (u+f-16).toNat 0=g.w.getD (u+f-16).toNat 0
 ·exact e
 ·exfalso
  have:=h.word _ e
  rw[show 16+((u+f-16).toNat:Int)=u+f by omega]at this
  exact hnot this
abbrev Thread.mayT (t:Thread):Prop:=0<=t.stage/\t.stage<=3/\0<=t.root/\t.root<=3/\0<=t.pc/\t.pc<=4/\(t.ops.length:Int)<=200/\(t.pc=0\/0<(t.ops.length:Int))
def zbQ (p:Int):Int:=if p=0 then 0 else if p=1 then 1 else if p=2 then 2 else 3
def zad (c:Col) (t:Thread):Bool:=
 if c.phase=0 then true else if c.phase=1 then decide (t.epoch=c.epoch) else if c.phase=2 then decide (t.epoch=c.epoch/\2<=t.stage) else decide (t.epoch=c.epoch/\t.stage=3)
def zaz (c:Col) (t:Thread):Bool:=t.live&&(decide t.mayT&&(decide (t.pc=0)&&!zad c t))
def zbi (c:Col) (t:Thread):Nat:=if zaz c t=true then (if t.epoch≠c.epoch then 1 else if c.phase=2 then 2 else 3) else 0
def ansT (c:Col) (t:Thread):Thread:=match zbi c t with
 |0=>t
 |1=>{t with epoch:=c.epoch,stage:=1,root:=0}
 |2=>{t with stage:=2}
 |_=>if t.root=3 then {t with root:=0,stage:=3} else {t with root:=t.root+1}
def ansG (g:Hp) (c:Col) (t:Thread):Hp:=if zbi c t=3 then zJ g c (t.reg t.root) else g
def ansC (g:Hp) (c:Col) (t:Thread):Col:=if zbi c t=3 then zE g c (t.reg t.root) else c
theorem zik {c:Col} {t:Thread} (h:zaz c t=true):t.live=true/\t.mayT/\t.pc=0/\zad c t=false:=by
 unfold zaz at h
 rw[Bool.and_eq_true,Bool.and_eq_true,Bool.and_eq_true,decide_eq_true_eq,decide_eq_true_eq,Bool.not_eq_true']at h
 exact h
theorem zvm {c:Col} {t:Thread} (h1:t.live=true) (h2:t.mayT) (h3:t.pc=0) (h4:zad c t=false):zaz c t=true:=by
 unfold zaz
 rw[h1,decide_eq_true h2,decide_eq_true h3,h4]
 rfl
theorem zq5 {c:Col} {t:Thread} (h:zaz c t=false):zbi c t=0:=by unfold zbi;rw[if_neg (by rw[h];decide)]
theorem znr {c:Col} {t:Thread} (h:zaz c t=false):ansT c t=t:=by unfold ansT;rw[zq5 h];rfl
theorem zw6 {g:Hp} {c:Col} {t:Thread} (h:zaz c t=false):ansG g c t=g:=by unfold ansG;rw[zq5 h];rfl
theorem zw0 {g:Hp} {c:Col} {t:Thread} (h:zaz c t=false):ansC g c t=c:=by unfold ansC;rw[zq5 h];rfl
theorem zc1 {c:Col} {t:Thread} (h:zaz c t=true) :
  (t.epoch≠c.epoch/\zbi c t=1/\ansT c t={t with epoch:=c.epoch,stage:=1,root:=0}) \/
  (t.epoch=c.epoch/\c.phase=2/\t.stage<2/\zbi c t=2/\ansT c t={t with stage:=2}) \/
  (t.epoch=c.epoch/\c.phase≠0/\c.phase≠1/\c.phase≠2/\t.stage≠3/\zbi c t=3/\ansT c t=if t.root=3 then {t with root:=0,stage:=3} else {t with root:=t.root+1}):=by
 have ha:=(zik h).2.2.2
 by_cases h1:t.epoch=c.epoch
 ·by_cases h2:c.phase=2
  ·have hk:zbi c t=2:=by unfold zbi;rw[if_pos h,if_neg (fun k=>k h1),if_pos h2]
   refine .inr (.inl ⟨h1,h2,?_,hk,by unfold ansT;rw[hk];rfl⟩)
   unfold zad at ha
   rw[if_neg (by omega),if_neg (by omega),if_pos h2]at ha
   have:=of_decide_eq_false ha
   omega
  ·have hk:zbi c t=3:=by unfold zbi;rw[if_pos h,if_neg (fun k=>k h1),if_neg h2]
   have h0:c.phase≠0:=by
    intro e
    unfold zad at ha
    rw[if_pos e]at ha
    cases ha
   have h0' : c.phase≠1:=by
    intro e
    unfold zad at ha
    rw[if_neg h0,if_pos e]at ha
    exact of_decide_eq_false ha h1
   refine .inr (.inr ⟨h1,h0,h0',h2,?_,hk,by unfold ansT;rw[hk];rfl⟩)
   intro e
   unfold zad at ha
   rw[if_neg h0,if_neg h0',if_neg h2]at ha
   exact of_decide_eq_false ha ⟨h1,e⟩
 ·have hk:zbi c t=1:=by unfold zbi;rw[if_pos h,if_pos h1]
  exact .inl ⟨h1,hk,by unfold ansT;rw[hk];rfl⟩
structure SameT (t u:Thread):Prop where
 live:u.live=t.live
 r0:u.r0=t.r0
 r1:u.r1=t.r1
 r2:u.r2=t.r2
 r3:u.r3=t.r3
 cache:u.cache=t.cache
 ops:u.ops=t.ops
 pc:u.pc=t.pc
 x:u.x=t.x
 y:u.y=t.y
theorem SameT.refl (t:Thread):SameT t t:=⟨rfl,rfl,rfl,rfl,rfl,rfl,rfl,rfl,rfl,rfl⟩
theorem zm4 (c:Col) (t:Thread):SameT t (ansT c t):=by
 by_cases h:zaz c t=true
 ·rcases zc1 h with⟨_,_,e⟩|⟨_,_,_,_,e⟩|⟨_,_,_,_,_,_,e⟩
  ·rw[e];exact⟨rfl,rfl,rfl,rfl,rfl,rfl,rfl,rfl,rfl,rfl⟩
  ·rw[e];exact⟨rfl,rfl,rfl,rfl,rfl,rfl,rfl,rfl,rfl,rfl⟩
  ·rw[e]
   by_cases h3:t.root=3
   ·rw[if_pos h3];exact⟨rfl,rfl,rfl,rfl,rfl,rfl,rfl,rfl,rfl,rfl⟩
   ·rw[if_neg h3];exact⟨rfl,rfl,rfl,rfl,rfl,rfl,rfl,rfl,rfl,rfl⟩
 ·rw[znr (by simpa using h)]
  exact .refl t
theorem zu7 {c:Col} {t:Thread} (hm:t.mayT):(ansT c t).mayT:=by
 by_cases h:zaz c t=true
 ·obtain⟨m1,m2,m3,m4,m5,m6,m7,m8⟩:=hm
  rcases zc1 h with⟨_,_,e⟩|⟨_,_,_,_,e⟩|⟨_,_,_,_,_,_,e⟩
  ·rw[e];exact⟨by show(0:Int)<=1;omega,by show(1:Int)<=3;omega,by show(0:Int)<=0;omega,by show(0:Int)<=3;omega,m5,m6,m7,m8⟩
  ·rw[e];exact⟨by show(0:Int)<=2;omega,by show(2:Int)<=3;omega,m3,m4,m5,m6,m7,m8⟩
  ·rw[e]
   by_cases h3:t.root=3
   ·rw[if_pos h3];exact⟨by show(0:Int)<=3;omega,by show(3:Int)<=3;omega,by show(0:Int)<=0;omega,by show(0:Int)<=3;omega,m5,m6,m7,m8⟩
   ·rw[if_neg h3];exact⟨m1,m2,by show 0<=t.root+1;omega,by show t.root+1<=3;omega,m5,m6,m7,m8⟩
 ·rw[znr (by simpa using h)]
  exact hm
def rem (c:Col) (t:Thread):Nat:=if zaz c t=true then (if t.epoch≠c.epoch then (if c.phase=1 then 1 else if c.phase=2 then 2 else 5) else if c.phase=2 then 1 else (4-t.root).toNat) else 0
inductive Roots (c:Col) (n:Nat) (k:Hp) (u:Thread):Prop
 |new (h:n=0) (he:u.epoch≠c.epoch) (ha:zaz c u=true)
 |at_ (he:u.epoch=c.epoch) (ha:zaz c u=true) (hn:(n:Int)<=u.root+1) (hw:∀r,0<=r->r<u.root->atK k c (u.reg r)≠1)
 |done (ha:zaz c u=false) (hs:u.stage=3) (hr:u.root=0) (hw:∀r,0<=r->r<=3->atK k c (u.reg r)≠1)
def beginT (c:Col) (t:Thread) (l:List Thread):Thread:=match l.find? (·.live) with
 |some x=>{t with live:=true,r0:=x.r0,r1:=0,r2:=0,r3:=0,epoch:=x.epoch,stage:=x.stage,root:=0,pc:=0,x:=0,y:=0}
 |none=>{t with live:=true,r0:=0,r1:=0,r2:=0,r3:=0,epoch:=if c.phase=0 then 0 else c.epoch,stage:=zbQ c.phase,root:=0,pc:=0,x:=0,y:=0}
def zju (c:Col) (l:List Thread):Bool:=l.all fun t=>!t.live || zad c t
set_option maxRecDepth 8000
structure Mu where
 h:Hp
 c:Col
 t:Thread
 r:Res
 told:Bool
def Mu.cells (m:Mu):List DV:=m.h.enc++(m.c.enc++(EK.enc .thread m.t++(EK.enc .res m.r++[DV.bo m.told])))
abbrev muV (m:Mu):List CV:=m.cells.map .d
def Mu.op (m:Mu):Op:=m.t.ops.getD 0 default
def ziA (t:Thread):Thread:={t with ops:=t.ops.drop 1,pc:=0,x:=0,y:=0}
def zka (m:Mu):Mu:={m with t:=ziA m.t}
def ziN (m:Mu) (e v:Int):Mu:={m with r:=⟨0,m.op,e,v⟩,told:=true}
def endM (m:Mu) (e v:Int):Mu:=zka (ziN m e v)
def zaU (a b:Int):Int:=if a≠0 then a else b
def zca (m:Mu) (r a:Int):Mu:=if za9 r=0 then {m with t:=m.t.setReg r a} else m
def zdZ (c:Col) (t:Thread):Bool:=decide (t.epoch=c.epoch/\1<=c.phase/\c.phase<=5)
def zlF (c:Col) (t:Thread):Bool:=decide (t.epoch=c.epoch/\t.stage=3/\c.phase≠0)
def zau (m:Mu) (n:Int):Hd:=if zlF m.c m.t=true then ⟨true,false,true,n,m.c.epoch,m.c.epoch⟩ else ⟨true,false,false,n,0,0⟩
def zaT (m:Mu) (r f:Int):Int:=if zdl m.h m.t r≠0 then zdl m.h m.t r else if f<0\/zd8 m.h m.t r<=f then 3 else 0
def zcZ (m:Mu) (r f:Int):Int:=if zaT m r f=0 then ze2 m.h m.t r else 0
def zcF (m:Mu) (r f:Int):Int:=if zaT m r f=0 then ze2 m.h m.t r+1+f else 0
theorem ztl {m:Mu} {r:Int} (h:zdl m.h m.t r≠0) (f:Int):zaT m r f=zdl m.h m.t r/\zcZ m r f=0/\zcF m r f=0:=by
 have e:zaT m r f=zdl m.h m.t r:=by unfold zaT;rw[if_pos h]
 unfold zcZ zcF
 rw[e,if_neg h,if_neg h]
 exact⟨rfl,rfl,rfl⟩
theorem zlJ {m:Mu} {r f:Int} (h:zdl m.h m.t r=0) (h2:f<0\/zd8 m.h m.t r<=f):zaT m r f=3/\zcZ m r f=0/\zcF m r f=0:=by
 have e:zaT m r f=3:=by unfold zaT;rw[if_neg (fun k=>k h),if_pos h2]
 unfold zcZ zcF
 rw[e]
 exact⟨rfl,rfl,rfl⟩
theorem ztr {m:Mu} {r f:Int} (h:zdl m.h m.t r=0) (h2:¬(f<0\/zd8 m.h m.t r<=f)):zaT m r f=0/\zcZ m r f=ze2 m.h m.t r/\zcF m r f=ze2 m.h m.t r+1+f:=by
 have e:zaT m r f=0:=by unfold zaT;rw[if_neg (fun k=>k h),if_neg h2]
 unfold zcZ zcF
 rw[e]
 exact⟨rfl,rfl,rfl⟩
theorem zvT {m:Mu} {r f:Int} (h:zaT m r f=0):zdl m.h m.t r=0/\0<=f/\f<zd8 m.h m.t r/\zcZ m r f=ze2 m.h m.t r/\zcF m r f=ze2 m.h m.t r+1+f:=by
 by_cases h1:zdl m.h m.t r=0
 ·by_cases h2:f<0\/zd8 m.h m.t r<=f
  ·rw[(zlJ h1 h2).1]at h;cases h
  ·obtain⟨_,e1,e2⟩:=ztr h1 h2
   exact⟨h1,by omega,by omega,e1,e2⟩
 ·rw[(ztl h1 f).1]at h;exact absurd h h1
def createM (m:Mu):Mu:=
 if 0<m.t.pc then endM (zca m m.op.a m.t.x) 0 0
 else if zaU (za9 m.op.a) (zap m.op.b)≠0 then endM m (zaU (za9 m.op.a) (zap m.op.b)) 0
 else if zaC m.h m.t.cache (zau m m.op.b)≠0 then endM m (zaC m.h m.t.cache (zau m m.op.b)) 0
 else {m with h:=zeL m.h m.t.cache (zau m m.op.b),t:={m.t with cache:=takeC m.h m.t.cache (zau m m.op.b),x:=takeA m.h m.t.cache (zau m m.op.b),pc:=1}}
def zez (m:Mu):Int:=zf m.h (zcF m m.op.b m.op.c)
def loadM (m:Mu):Mu:=
 if za9 m.op.a≠0 then endM m (za9 m.op.a) 0
 else if zaT m m.op.b m.op.c≠0 then endM m (zaT m m.op.b m.op.c) 0
 else endM (zca m m.op.a (zez m)) 0 (if zez m≠0 then 1 else 0)
def zgm (m:Mu):Mu:=
 if zaU (zaT m m.op.a m.op.b) (za9 m.op.c)≠0 then endM m (zaU (zaT m m.op.a m.op.b) (za9 m.op.c)) 0
 else {m with t:={m.t with x:=zf m.h (zcF m m.op.a m.op.b),y:=getA m.t m.op.c,pc:=1}}
def zb3 (m:Mu) (a:Int):Mu:={m with h:=if zdZ m.c m.t=true then zJ m.h m.c a else m.h,c:=if zdZ m.c m.t=true then zE m.h m.c a else m.c,t:={m.t with pc:=m.t.pc+1}}
def zfY (m:Mu):Mu:=
 if zaT m m.op.a m.op.b≠0 then endM m 5 0
 else {ziN m 0 0 with h:={m.h with w:=m.h.w.set (zcF m m.op.a m.op.b-16).toNat m.t.y},t:={m.t with pc:=4}}
def zf2 (m:Mu):Mu:=zka (if zaT m m.op.a m.op.b=0 then {m with h:=zaN m.h (zcZ m m.op.a m.op.b)} else m)
def storeM (m:Mu):Mu:=if m.t.pc=0 then zgm m else if m.t.pc=1 then zb3 m m.t.x else if m.t.pc=2 then zb3 m m.t.y else if m.t.pc=3 then zfY m else zf2 m
def dropM (m:Mu):Mu:=endM (zca m m.op.a 0) (za9 m.op.a) 0
def zfG (m:Mu):Int:=zaU (za9 m.op.a) (za9 m.op.b)
def sameM (m:Mu):Mu:=endM m (zfG m) (if zfG m=0/\m.t.reg m.op.a=m.t.reg m.op.b then 1 else 0)
def sizeM (m:Mu):Mu:=endM m (zdl m.h m.t m.op.a) (zd8 m.h m.t m.op.a)
def exitM (m:Mu):Mu:={ziN m 0 0 with h:=zgB m.h m.t.cache,t:=Thread.zero}
def zg8 (g:Hp) (t:Thread):Bool:=decide t.mayT&&(t.live&&(decide (0<t.ops.length)&&zw g [t.cache]))
def zdA (m:Mu):Mu:=
 if m.op.kind=0 then createM m else if m.op.kind=1 then loadM m else if m.op.kind=2 then storeM m else if m.op.kind=3 then dropM m
 else if m.op.kind=4 then sameM m else if m.op.kind=5 then sizeM m else if m.op.kind=6 then exitM m else endM m 1 0
def Res.zero:Res:=⟨0,⟨0,0,0,0⟩,0,0⟩
def mutS (g:Hp) (c:Col) (t:Thread):Mu:=if zg8 g t=true then zdA ⟨g,c,t,Res.zero,false⟩ else ⟨g,c,t,Res.zero,false⟩
open Go.Proofs Go.Proofs.YtlankjlnnimdoaaGreatDoor
def ziS (g:Hp) (c:Int) (n:Nat):List Int:=((List.range n).map fun i:Nat=>16+c*8+(i:Int)).filter fun a=>(zaa g).contains a
def onH (g:Hp) (c:Int):List Int:=bif decide (0<=c/\c<(g.cards.length:Int)) then ziS g c 8 else []
def zeG (g:Hp) (c a:Int):Option Int:=(onH g c).find? fun b=>decide (a<b)&&(headH g b).old
theorem zui (g:Hp) (c:Int) (n:Nat):ziS g c (n+1)=ziS g c n++(bif (zaa g).contains (16+c*8+(n:Int)) then [16+c*8+(n:Int)] else []):=by
 unfold ziS
 rw[List.range_succ,List.map_append,List.filter_append]
 have e:([16+c*8+(n:Int)]:List Int).filter (fun a=>(zaa g).contains a)=bif (zaa g).contains (16+c*8+(n:Int)) then [16+c*8+(n:Int)] else []:=by
  rw[List.filter_cons,List.filter_nil]
  cases (zaa g).contains (16+c*8+(n:Int))<;>rfl
 rw[←e]
 rfl
theorem zp2 (g:Hp) (c:Int) (n:Nat):(ziS g c n).length<=n:=by
 unfold ziS
 refine Nat.le_trans (List.length_filter_le _ _) ?_
 simp
theorem zxd (g:Hp) (c:Int) (hl:g.light):Spec X 244 [] [g.tv,.int c] (Ret [] (.c (.d (.sl .int (onH g c))))):=by
 refine zGO X_ok Tryz.f244 fun hb hH=>⟨rfl,?_⟩
 have hlc:g.cards.length<=zA:=((hb (g.tv) (by simp)) (.d (.sl .bool g.cards)) (by simp[Hp.enc])).1
 unfold zA at hlc
 have hcond:(bif decide (c<0) then true else decide (c>=(g.cards.length:Int))) = !decide (0<=c/\c<(g.cards.length:Int)):=by
  by_cases h1:c<0
  ·rw[decide_eq_true h1,decide_eq_false (p:=0<=c/\c<(g.cards.length:Int)) (by omega)];rfl
  ·rw[decide_eq_false h1]
   by_cases h2:c>=(g.cards.length:Int)
   ·rw[decide_eq_true h2,decide_eq_false (p:=0<=c/\c<(g.cards.length:Int)) (by omega)];rfl
   ·rw[decide_eq_false h2,decide_eq_true (p:=0<=c/\c<(g.cards.length:Int)) (by omega)];rfl
 unfold onH
 show ABr (bif decide (c<0) then true else decide (c>=(g.cards.length:Int))) _ _
 rw[hcond]
 cases hin:decide (0<=c/\c<(g.cards.length:Int)) with
 |false=>
  refine zYE (by decide) ?_
  show ARet ..
  exact zfM (.nilsl rfl) ⟨rfl,rfl⟩
 |true=>
  have hin:=of_decide_eq_true hin
  refine zNO (by decide) ?_
  show ACall ..
  refine za (zhE g hl) rfl ?_
  show ∃n,_
  refine⟨0,ALoop.inv (ι:={i:Nat // i<=8}) (fun i=>⟨[(1,.int c),(5,.c (.d (.sl .int (zaa g)))),(6,.c (.own 1)),(20,.int i.1)],[(1,.data .int (ziS g c i.1))],64⟩) (fun i=>8-i.1) ⟨0,Nat.zero_le _⟩ ?_ ?_⟩
  ·exact⟨[],.cons _ _ _ .same (.cons _ _ _ .same (.cons _ _ _ (.c _ _ (.nilown 1 .int rfl rfl)) (.cons _ _ _ .same .nil))),.new 1 .int _ rfl .nil,rfl⟩
  ·rintro⟨i,hi⟩
   show ABr (decide ((i:Int)<8)) _ _
   refine⟨fun h=>?_,fun h=>?_⟩
   ·have hlt:i<8:=by have:=of_decide_eq_true h;omega
    have w1:IntKind.i64.wrap (c*8)=c*8:=zu (by omega) (by omega)
    have w2:IntKind.i64.wrap (16+c*8)=16+c*8:=zu (by omega) (by omega)
    have w3:IntKind.i64.wrap (16+c*8+(i:Int))=16+c*8+(i:Int):=zu (by omega) (by omega)
    have wi:IntKind.i64.wrap ((i:Int)+1)=((i+1:Nat):Int):=by rw[zu (by omega) (by omega)];rfl
    have hs:=zui g c i
    have hlen:=zp2 g c i
    show ACall _ _ [_,.int (IntKind.i64.wrap (IntKind.i64.wrap (16+IntKind.i64.wrap (c*8))+(i:Int)))] _ _ _
    rw[w1,w2,w3]
    refine za (zml (zaa g) (16+c*8+(i:Int))) rfl ?_
    show ABr ((zaa g).contains (16+c*8+(i:Int))) _ _
    refine⟨fun h=>?_,fun h=>?_⟩
    ·rw[h]at hs
     show AOb ((ziS g c i).length+1<=zi) _
     refine⟨by unfold zi;omega,?_⟩
     show ARound ..
     exact⟨⟨i+1,hlt⟩,by show 8-(i+1)<8-i;omega,[(_,1)],.cons _ _ _ .same (.cons _ _ _ .same (.cons _ _ _ (.c _ _ (.own1 _ _)) (.cons _ _ _ (.int_eq wi) .nil))),.old 1 _ _ _ _ rfl rfl (.data_eq hs.symm) .nil,rfl⟩
    ·rw[h]at hs
     show ARound ..
     exact⟨⟨i+1,hlt⟩,by show 8-(i+1)<8-i;omega,[(1,1)],.cons _ _ _ .same (.cons _ _ _ .same (.cons _ _ _ (.c _ _ (.own1 _ _)) (.cons _ _ _ (.int_eq wi) .nil))),.old 1 1 _ _ _ rfl rfl (.data_eq (by rw[hs];exact(List.append_nil _).symm)) .nil,rfl⟩
   ·have hge:i=8:=by have:=of_decide_eq_false h;omega
    subst hge
    show ARet ..
    exact zfM (.frz (k:=.int) (l:=ziS g c 8) rfl rfl) ⟨rfl,rfl⟩
theorem zsb (g:Hp) (c a:Int) (hl:g.light):Spec X 209 [] [g.tv,.int c,.int a] (Ret [] (.tup [.int ((zeG g c a).getD 0),.bo (zeG g c a).isSome])):=by
 refine zGO X_ok Tryz.f209 fun hb hH=>⟨rfl,?_⟩
 show ACall ..
 refine za (zxd g c hl) rfl ?_
 obtain⟨O,hO⟩:∃O,O=onH g c:=⟨_,rfl⟩
 have hlen:O.length<=8:=by
  rw[hO]
  unfold onH
  cases decide (0<=c/\c<(g.cards.length:Int))
  ·exact Nat.zero_le _
  ·exact zp2 g c 8
 rw[←hO]
 obtain⟨o,ho⟩:∃o,o=zeG g c a:=⟨_,rfl⟩
 rw[←ho]
 show ∃n,_
 refine⟨0,ALoop.inv (ι:={i:Nat // i<=O.length/\zeG g c a=(O.drop i).find? fun b=>decide (a<b)&&(headH g b).old}) (fun i=>⟨[(2,.int a),(3,.c (.d (.rp g.enc))),(14,.c (.d (.sl .int O))),(15,.int O.length),(16,.int i.1)],[],64⟩) (fun i=>O.length-i.1) ⟨0,Nat.zero_le _,by unfold zeG;rw[←hO];rfl⟩ ?_ ?_⟩
 ·exact⟨[],.cons _ _ _ .same (.cons _ _ _ (.c _ _ (.frz _ _ rfl)) (.cons _ _ _ .same (.cons _ _ _ .same (.cons _ _ _ .same .nil)))),.nil,rfl⟩
 ·rintro⟨i,hi,he⟩
  show ABr (decide ((i:Int)<(O.length:Int))) _ _
  refine⟨fun h=>?_,fun h=>?_⟩
  ·have hlt:i<O.length:=by simpa using h
   have wi:IntKind.i64.wrap ((i:Int)+1)=((i+1:Nat):Int):=zP (i:=i) (by unfold zA;omega)
   obtain⟨b,hbb⟩:∃b,b=O.getD i default:=⟨_,rfl⟩
   have hd:O.drop i=b::O.drop (i+1):=by rw[hbb];exact zk9 hlt
   rw[hd,List.find?_cons]at he
   show AOb ((0:Int)<=(i:Int)/\(i:Int)<(O.length:Int)) _
   refine⟨by omega,?_⟩
   show ABr (decide (O.getD i default<=a)) _ _
   rw[←hbb]
   refine⟨fun h=>?_,fun h=>?_⟩
   ·have hle:=of_decide_eq_true h
    rw[decide_eq_false (by omega)]at he
    show ARound ..
    exact⟨⟨i+1,hlt,he⟩,by show O.length-(i+1)<O.length-i;omega,[],.cons _ _ _ .same (.cons _ _ _ .same (.cons _ _ _ .same (.cons _ _ _ .same (.cons _ _ _ (.int_eq wi) .nil)))),.nil,rfl⟩
   ·have hgt:=of_decide_eq_false h
    rw[decide_eq_true (by omega)]at he
    show ACall _ _ [_,.int (O.getD i default)] _ _ _
    rw[←hbb]
    refine za (zaI g b hl) rfl ?_
    show ABr (headH g b).old _ _
    refine⟨fun h=>?_,fun h=>?_⟩
    ·rw[h]at he
     have e1:o=some b:=ho.trans he
     subst e1 hbb
     show ARet ..
     exact zg rfl ⟨rfl,rfl⟩
    ·rw[h]at he
     show ARound ..
     exact⟨⟨i+1,hlt,he⟩,by show O.length-(i+1)<O.length-i;omega,[],.cons _ _ _ .same (.cons _ _ _ .same (.cons _ _ _ .same (.cons _ _ _ .same (.cons _ _ _ (.int_eq wi) .nil)))),.nil,rfl⟩
  ·have hge:i=O.length:=by simp at h;omega
   rw[hge,List.drop_length]at he
   have e1:o=none:=ho.trans he
   subst e1
   show ARet ..
   exact zg rfl ⟨rfl,rfl⟩
end Go.Abs
namespace Go.Abs
def zd9 (g:Hp) (a:Int):Bool:=decide (headE g a=0)&&!(headH g a).old
def zdm (g:Hp) (c:Col) (v:Int):Hp×Col:=if zd9 g v=true then (zJ g c v,{zE g c v with met:=true}) else (g,c)
def zoC (g:Hp) (c:Col):Hp×Col:=
 if headE g c.at_≠0\/c.field_<0\/(headH g c.at_).n<=c.field_ then (g,{c with at_:=0,field_:=0})
 else if c.field_+1=(headH g c.at_).n then ((zdm g c (wordOf g (c.at_+1+c.field_))).1,{(zdm g c (wordOf g (c.at_+1+c.field_))).2 with at_:=0,field_:=0})
 else ((zdm g c (wordOf g (c.at_+1+c.field_))).1,{(zdm g c (wordOf g (c.at_+1+c.field_))).2 with field_:=c.field_+1})
def zo2 (g:Hp) (c:Col):Hp×Col:=
 if g.cards.getD c.card.toNat false=true then (cset g c.card false,{c with seek:=1,met:=false,at_:=0,field_:=0}) else (g,{c with card:=c.card+1})
def zsO (g:Hp) (c:Col):Hp×Col:=
 ((if c.met=true then cset g c.card true else g),{c with card:=c.card+1,seek:=0,met:=false})
def zj6 (g : Hp) (c : Col) : Hp × Col :=
  if zw g [] = true /\ c.phase = 4 /\ 0 <= c.card then
    (if (g.cards.length : Int) <= c.card then (g, { c with phase := 5, seek := 0, card := 0, met := false, at_ := 0, field_ := 0 })
     else if c.seek = 0 then zo2 g c
     else if c.at_ ≠ 0 then zoC g c
     else match zeG g c.card c.seek with
       | some a => (g, { c with at_ := a, field_ := 0, seek := a })
       | none => zsO g c)
  else (g, c)
inductive SStep (g:Hp) (c:Col):Hp->Col->Prop
 |idle (h:¬(zw g []=true/\c.phase=4/\0<=c.card)):SStep g c g c
 |fin (hm:zw g []=true) (hp:c.phase=4) (hc:(g.cards.length:Int)<=c.card):SStep g c g {c with phase:=5,seek:=0,card:=0,met:=false,at_:=0,field_:=0}
 |clean (hm:zw g []=true) (hp:c.phase=4) (h0:0<=c.card) (hc:c.card<(g.cards.length:Int)) (hs:c.seek=0) (hd:g.cards.getD c.card.toNat false=true):SStep g c (cset g c.card false) {c with seek:=1,met:=false,at_:=0,field_:=0}
 |skip (hm:zw g []=true) (hp:c.phase=4) (h0:0<=c.card) (hc:c.card<(g.cards.length:Int)) (hs:c.seek=0) (hd:g.cards.getD c.card.toNat false=false):SStep g c g {c with card:=c.card+1}
 |lost (hm:zw g []=true) (hp:c.phase=4) (h0:0<=c.card) (hc:c.card<(g.cards.length:Int)) (hs:c.seek≠0) (ha:c.at_≠0) (hf:headE g c.at_≠0\/c.field_<0\/(headH g c.at_).n<=c.field_):SStep g c g {c with at_:=0,field_:=0}
 |last (hm:zw g []=true) (hp:c.phase=4) (h0:0<=c.card) (hc:c.card<(g.cards.length:Int)) (hs:c.seek≠0) (ha:c.at_≠0) (hE:headE g c.at_=0) (hf:0<=c.field_) (hl:c.field_+1=(headH g c.at_).n) (v:Int) (hv:v=wordOf g (c.at_+1+c.field_)) :
   SStep g c (zdm g c v).1 {(zdm g c v).2 with at_:=0,field_:=0}
 |more (hm:zw g []=true) (hp:c.phase=4) (h0:0<=c.card) (hc:c.card<(g.cards.length:Int)) (hs:c.seek≠0) (ha:c.at_≠0) (hE:headE g c.at_=0) (hf:0<=c.field_) (hl:c.field_+1<(headH g c.at_).n) (v:Int) (hv:v=wordOf g (c.at_+1+c.field_)) :
   SStep g c (zdm g c v).1 {(zdm g c v).2 with field_:=c.field_+1}
 |next (hm:zw g []=true) (hp:c.phase=4) (h0:0<=c.card) (hc:c.card<(g.cards.length:Int)) (hs:c.seek≠0) (ha:c.at_=0) (a:Int) (hn:zeG g c.card c.seek=some a):SStep g c g {c with at_:=a,field_:=0,seek:=a}
 |done (hm:zw g []=true) (hp:c.phase=4) (h0:0<=c.card) (hc:c.card<(g.cards.length:Int)) (hs:c.seek≠0) (ha:c.at_=0) (hn:zeG g c.card c.seek=none):SStep g c (if c.met=true then cset g c.card true else g) {c with card:=c.card+1,seek:=0,met:=false}
theorem zut (g:Hp) (c:Col):SStep g c (zj6 g c).1 (zj6 g c).2:=by
 unfold zj6
 by_cases h:zw g []=true/\c.phase=4/\0<=c.card
 ·rw[if_pos h]
  obtain⟨hm,hp,h0⟩:=h
  by_cases hc:(g.cards.length:Int)<=c.card
  ·rw[if_pos hc];exact .fin hm hp hc
  ·rw[if_neg hc]
   have hc:c.card<(g.cards.length:Int):=by omega
   by_cases hs:c.seek=0
   ·rw[if_pos hs]
    unfold zo2
    cases hd:g.cards.getD c.card.toNat false with
    |true=>rw[if_pos rfl];exact .clean hm hp h0 hc hs hd
    |false=>rw[if_neg (by decide)];exact .skip hm hp h0 hc hs hd
   ·rw[if_neg hs]
    by_cases ha:c.at_≠0
    ·rw[if_pos ha]
     unfold zoC
     by_cases hf:headE g c.at_≠0\/c.field_<0\/(headH g c.at_).n<=c.field_
     ·rw[if_pos hf];exact .lost hm hp h0 hc hs ha hf
     ·rw[if_neg hf]
      have hE:headE g c.at_=0:=Classical.byContradiction fun e=>hf (.inl e)
      by_cases hl:c.field_+1=(headH g c.at_).n
      ·rw[if_pos hl];exact .last hm hp h0 hc hs ha hE (by omega) hl _ rfl
      ·rw[if_neg hl];exact .more hm hp h0 hc hs ha hE (by omega) (by omega) _ rfl
    ·rw[if_neg ha]
     have ha:c.at_=0:=by simpa using ha
     cases hn:zeG g c.card c.seek with
     |some a=>exact .next hm hp h0 hc hs ha a hn
     |none=>exact .done hm hp h0 hc hs ha hn
 ·rw[if_neg h];exact .idle h
theorem zcP (g:Hp) (c:Col) (v:Int):(zd9 g v=true/\zdm g c v=(zJ g c v,{zE g c v with met:=true}))\/(zd9 g v=false/\zdm g c v=(g,c)):=by
 unfold zdm
 cases zd9 g v with
 |true=>exact .inl ⟨rfl,if_pos rfl⟩
 |false=>exact .inr ⟨rfl,if_neg (by decide)⟩
theorem ztm (g:Hp) (c:Col) (v:Int):(zdm g c v).2.phase=c.phase/\(zdm g c v).2.epoch=c.epoch/\(zdm g c v).2.major=c.major/\(zdm g c v).2.at_=c.at_/\(zdm g c v).2.field_=c.field_/\(zdm g c v).2.seek=c.seek/\(zdm g c v).2.card=c.card:=by
 rcases zcP g c v with⟨_,e⟩|⟨_,e⟩<;>rw[e]
 ·have h:=zaM g c v
  exact⟨h.phase,h.epoch,h.major,h.at_,h.field_,h.seek,h.card⟩
 ·exact⟨rfl,rfl,rfl,rfl,rfl,rfl,rfl⟩
open Go.Proofs Go.Proofs.YtlankjlnnimdoaaGreatDoor
set_option maxRecDepth 8000
theorem zuL {g:Hp} {c:Int} {n:Nat} {a:Int}:a∈ziS g c n↔a∈zaa g/\16+c*8<=a/\a<16+c*8+(n:Int):=by
 unfold ziS
 rw[List.mem_filter]
 constructor
 ·rintro⟨h1,h2⟩
  obtain⟨i,hi,rfl⟩:=List.mem_map.1 h1
  rw[List.mem_range]at hi
  exact⟨List.contains_iff_mem.1 h2,by omega,by omega⟩
 ·rintro⟨h1,h2,h3⟩
  exact⟨List.mem_map.2 ⟨(a-(16+c*8)).toNat,List.mem_range.2 (by omega),by omega⟩,List.contains_iff_mem.2 h1⟩
theorem zpO (g:Hp) (c:Int) (n:Nat):(ziS g c n).Pairwise (· < ·):=by
 unfold ziS
 refine List.Pairwise.filter _ ?_
 rw[List.pairwise_map]
 exact List.Pairwise.imp (fun h=>by omega) List.pairwise_lt_range
theorem zrt (g:Hp) (c:Int):(onH g c).Pairwise (· < ·):=by
 unfold onH
 cases decide (0<=c/\c<(g.cards.length:Int))
 ·exact List.Pairwise.nil
 ·exact zpO g c 8
end Go.Abs
namespace Go.Abs
theorem zos {g:Hp} {n u:Int} (h0:0<=n) (hc:n<(g.cards.length:Int)):u∈onH g n↔headE g u=0/\16+n*8<=u/\u<16+n*8+8:=by
 unfold onH
 rw[decide_eq_true ⟨h0,hc⟩]
 show u∈ziS g n 8↔_
 rw[zuL,zaJ]
 rfl
theorem zsl {g:Hp} {n a b:Int} (h:zeG g n a=some b):b∈onH g n/\a<b/\(headH g b).old=true/\∀u∈onH g n,a<u->(headH g u).old=true->b<=u:=by
 unfold zeG at h
 obtain⟨h1,xs,bs,e,h2⟩:=List.find?_eq_some_iff_append.1 h
 rw[Bool.and_eq_true,decide_eq_true_eq]at h1
 have hs:=zrt g n
 rw[e]at hs ⊢
 refine⟨by simp,h1.1,h1.2,fun u hu ha ho=>?_⟩
 rcases List.mem_append.1 hu with hu|hu
 ·have:=h2 u hu
  rw[decide_eq_true ha,ho]at this
  cases this
 ·rcases List.mem_cons.1 hu with hu|hu
  ·omega
  ·have h3:=(List.pairwise_append.1 hs).2.1
   rw[List.pairwise_cons]at h3
   exact Int.le_of_lt (h3.1 u hu)
theorem zsB {g:Hp} {n a:Int} (h:zeG g n a=none):∀u∈onH g n,a<u->(headH g u).old=true->False:=by
 intro u hu ha ho
 unfold zeG at h
 have:=List.find?_eq_none.1 h u hu
 rw[decide_eq_true ha,ho]at this
 exact this rfl
open Go.Proofs Go.Proofs.YtlankjlnnimdoaaGreatDoor
set_option maxRecDepth 8000
def zbF (g:Hp) (c:Col) (a:Int):Int:=if headE g a≠0\/((headH g a).old=true/\c.major=false) then 0 else if (headH g a).mark<c.epoch then 1 else if (headH g a).old=false/\(headH g a).born<c.epoch then 2 else 0
theorem zgo (g:Hp) (c:Col) (a:Int):zbF g c a=0\/(zbF g c a=1/\headE g a=0)\/(zbF g c a=2/\headE g a=0):=by
 unfold zbF
 split
 ·exact .inl rfl
 ·rename_i h
  have h:headE g a=0:=Classical.byContradiction fun k=>h (.inl k)
  split
  ·exact .inr (.inl ⟨rfl,h⟩)
  ·split
   ·exact .inr (.inr ⟨rfl,h⟩)
   ·exact .inl rfl
theorem zmM {c d:Col} (h1:d.epoch=c.epoch) (h2:d.major=c.major) (g:Hp) (a:Int):zbF g d a=zbF g c a:=by unfold zbF;rw[h1,h2]
theorem zmR (g:Hp) (c:Col) (a:Int) (hl:g.light):Spec X 248 [] [g.tv,c.tv,.int a] (Ret [] (.int (zbF g c a))):=by
 refine zGO X_ok Tryz.f248 fun hb hH=>⟨rfl,?_⟩
 show ACall ..
 refine za (zaI g a hl) rfl ?_
 unfold zbF
 by_cases hE:headE g a=0
 ·show ABr (!decide (headE g a=0)) _ _
  rw[decide_eq_true hE]
  refine zNO (by decide) ?_
  by_cases h1:(headH g a).old=true/\c.major=false
  ·rw[if_pos (.inr h1)]
   show ABr (bif (headH g a).old then !c.major else false) _ _
   rw[h1.1,h1.2]
   refine zYE (by decide) ?_
   show ARet ..
   exact zg rfl ⟨rfl,rfl⟩
  ·rw[if_neg (fun k=>k.elim (fun k=>k hE) h1)]
   show ABr (bif (headH g a).old then !c.major else false) _ _
   rw[show(bif (headH g a).old then !c.major else false)=false by cases ho:(headH g a).old<;>cases hm:c.major<;>first|rfl|exact absurd ⟨ho,hm⟩ h1]
   refine zNO (by decide) ?_
   show ABr (decide ((headH g a).mark<c.epoch)) _ _
   by_cases h2:(headH g a).mark<c.epoch
   ·rw[if_pos h2,decide_eq_true h2]
    refine zYE (by decide) ?_
    show ARet ..
    exact zg rfl ⟨rfl,rfl⟩
   ·rw[if_neg h2,decide_eq_false h2]
    refine zNO (by decide) ?_
    show ABr (bif !(headH g a).old then decide ((headH g a).born<c.epoch) else false) _ _
    by_cases h3:(headH g a).old=false/\(headH g a).born<c.epoch
    ·rw[if_pos h3,h3.1,decide_eq_true h3.2]
     refine zYE (by decide) ?_
     show ARet ..
     exact zg rfl ⟨rfl,rfl⟩
    ·rw[if_neg h3,show(bif !(headH g a).old then decide ((headH g a).born<c.epoch) else false)=false by cases ho:(headH g a).old<;>first|rfl|exact decide_eq_false fun k=>h3 ⟨ho,k⟩]
     refine zNO (by decide) ?_
     show ARet ..
     exact zg rfl ⟨rfl,rfl⟩
 ·rw[if_pos (.inl hE)]
  show ABr (!decide (headE g a=0)) _ _
  rw[decide_eq_false hE]
  refine zYE (by decide) ?_
  show ABr (!decide (headE g a=0)) _ _
  rw[decide_eq_false hE]
  refine zYE (by decide) ?_
  show ARet ..
  exact zg rfl ⟨rfl,rfl⟩
def swV (g:Hp) (c:Col):List CV:=(g.enc++c.enc).map .d
theorem zsk (g:Hp) (c:Col) (hs:g.small) (hw:c.work.length<=zi):Spec X 215 [] [g.tv,c.tv] (Ret [(0,.vars (swV g c))] (.c (.ptr 0 0 0))):=by
 refine zGO X_ok Tryz.f215 fun hb hH=>⟨rfl,?_⟩
 obtain⟨h1,h2,h3,h4,h5,h6⟩:=hs
 show ADCall ..
 refine .mk _ _ (zd g.w h1) rfl ?_
 show ADCall ..
 refine .mk _ _ (zab g.pages h2) rfl ?_
 show ADCall ..
 refine .mk _ _ (zae g.cards h3) rfl ?_
 show ∃n,_
 refine⟨4,?_⟩
 show ALoop ..
 refine .next ?_
 refine zYE (by decide) ?_
 show AOb ..
 refine⟨by decide,?_⟩
 show ACall ..
 refine za (zd g.free.l0 h4) rfl ?_
 show AOb ..
 refine⟨by decide,?_⟩
 show ALoop ..
 refine .next ?_
 refine zYE (by decide) ?_
 show AOb ..
 refine⟨by decide,?_⟩
 show ACall ..
 refine za (zd g.free.l1 h5) rfl ?_
 show AOb ..
 refine⟨by decide,?_⟩
 show ALoop ..
 refine .next ?_
 refine zYE (by decide) ?_
 show AOb ..
 refine⟨by decide,?_⟩
 show ACall ..
 refine za (zd g.free.l2 h6) rfl ?_
 show AOb ..
 refine⟨by decide,?_⟩
 show ALoop ..
 refine .next ?_
 refine zNO (by decide) ?_
 show ACall ..
 refine za (zd c.work hw) rfl ?_
 show ARet ..
 exact⟨[(_,0)],[(0,.vars (swV g c))],[.c (.ptr 0 0 0)],.cons _ _ _ _ (.c _ _ (.ptr1 _ _ _ _)) .nil,.old 0 _ _ _ _ rfl rfl (.vars _ _ (zb rfl)) .nil,rfl,rfl,rfl⟩
theorem zpS (g:Hp) (c:Col) (a:Int) (hl:g.light) (hs:g.small):Spec X 249 [(16,.vars (swV g c))] [.c (.ptr 16 0 0),.int a] (fun H r=>H=[(16,.vars (swV (zfP g a) c))]/\r = .tup []):=by
 refine zGO X_ok Tryz.f249 fun hb hH=>⟨rfl,?_⟩
 show ACall ..
 refine za (zub g a hl hs) rfl ?_
 show ARet ..
 exact⟨[(16,16)],[(16,.vars (swV (zfP g a) c))],[],.nil,.old 16 16 _ _ _ rfl rfl (.vars _ _ (zb rfl)) .nil,rfl,rfl,rfl⟩
theorem zn0 (g:Hp) (c:Col) (a:Int) (hl:g.light) (ha:a<9223372036854775808):Spec X 250 [(16,.vars (swV g c))] [.c (.ptr 16 0 0),.int a] (fun H r=>H=[(16,.vars (swV (zaN g a) {c with met:=true}))]/\r = .tup []):=by
 refine zGO X_ok Tryz.f250 fun hb hH=>⟨rfl,?_⟩
 show ACall ..
 refine za (zh2 g a hl ha) rfl ?_
 show ARet ..
 exact⟨[(16,16)],[(16,.vars (swV (zaN g a) {c with met:=true}))],[],.nil,.old 16 16 _ _ _ rfl rfl (.vars _ _ (zb rfl)) .nil,rfl,rfl,rfl⟩
theorem zrA (g:Hp) (c:Col):Spec X 218 [(16,.vars (swV g c))] [.c (.ptr 16 0 0)] (fun H r=>H=[(16,.vars (swV g ⟨0,c.epoch,c.major,[],false,0,0,0,0,false⟩))]/\r = .tup []):=by
 refine zGO X_ok Tryz.f218 fun hb hH=>⟨rfl,?_⟩
 show ARet ..
 exact⟨[(16,16)],[(16,.vars (swV g ⟨0,c.epoch,c.major,[],false,0,0,0,0,false⟩))],[],.nil,.old 16 16 _ _ _ rfl rfl (.vars _ _ (.cons _ _ _ _ (.d _) (.cons _ _ _ _ (.d _) (.cons _ _ _ _ (.d _) (.cons _ _ _ _ (.d _) (.cons _ _ _ _ (.d _) (.cons _ _ _ _ (.d _) (.cons _ _ _ _ (.d _) (.cons _ _ _ _ (.d _) (.cons _ _ _ _ (.d _) (.cons _ _ _ _ (.nilsl .int) (.cons _ _ _ _ (.d _) (.cons _ _ _ _ (.d _) (.cons _ _ _ _ (.d _) (.cons _ _ _ _ (.d _) (.cons _ _ _ _ (.d _) (.cons _ _ _ _ (.d _) .nil))))))))))))))))) .nil,rfl,rfl,rfl⟩
def zwI (g:Hp) (c:Col):Hp:=if zbF g c c.seek=2 then zhM g c.seek {headH g c.seek with old:=true} else g
theorem zrg (g:Hp) (c:Col) (hl:g.light):Spec X 216 [(16,.vars (swV g c))] [.c (.ptr 16 0 0),.int c.seek] (fun H r=>H=[(16,.vars (swV (zwI g c) {c with met:=false}))]/\r = .tup []):=by
 refine zGO X_ok Tryz.f216 fun hb hH=>⟨rfl,?_⟩
 show ADCall ..
 refine .mk _ _ (zmR g {c with met:=false} c.seek hl) rfl ?_
 rw[zmM (c:=c) (d:={c with met:=false}) rfl rfl]
 unfold zwI
 by_cases h:zbF g c c.seek=2
 ·rw[if_pos h]
  show ABr (!decide (zbF g c c.seek=2)) _ _
  rw[decide_eq_true h]
  refine zNO (by decide) ?_
  show ACall ..
  refine za (zaI g c.seek hl) rfl ?_
  show ADCall ..
  refine .mk _ _ (zjk g c.seek {headH g c.seek with old:=true} hl) rfl ?_
  show ARet ..
  exact⟨[(16,16)],[(16,.vars (swV (zhM g c.seek {headH g c.seek with old:=true}) {c with met:=false}))],[],.nil,.old 16 16 _ _ _ rfl rfl (.vars _ _ (zb rfl)) .nil,rfl,rfl,rfl⟩
 ·rw[if_neg h]
  show ABr (!decide (zbF g c c.seek=2)) _ _
  rw[decide_eq_false h]
  refine zYE (by decide) ?_
  show ARet ..
  exact⟨[(16,16)],[(16,.vars (swV g {c with met:=false}))],[],.nil,.old 16 16 _ _ _ rfl rfl (.vars _ _ (zb rfl)) .nil,rfl,rfl,rfl⟩
def zpN (g:Hp) (c:Col) (a:Int):Hp×Col:=if zbF g c a=1 then (zfP g a,{c with seek:=a}) else if zbF g c a=2 then (zaN g a,{c with seek:=a,met:=true}) else (g,{c with seek:=a})
set_option maxRecDepth 60000 in
set_option maxHeartbeats 2000000 in
theorem zpE (g:Hp) (c:Col) (a:Int) (hl:g.light) (hs:g.small) (ha:a<9223372036854775808):Spec X 217 [(16,.vars (swV g c))] [.c (.ptr 16 0 0),.int a] (fun H r=>H=[(16,.vars (swV (zpN g c a).1 (zpN g c a).2))]/\r = .tup []):=by
 refine zGO X_ok Tryz.f217 fun hb hH=>⟨rfl,?_⟩
 have fs:=zmR g {c with seek:=a} a hl
 rw[zmM (c:=c) (d:={c with seek:=a}) rfl rfl]at fs
 unfold zpN
 rcases zgo g c a with h|⟨h,_⟩|⟨h,_⟩
 ·rw[h]at fs ⊢
  show ADCall ..
  refine .mk _ _ (fs) rfl ?_
  refine zNO (by decide) ?_
  show ARet ..
  exact⟨[(16,16)],[(16,.vars (swV g {c with seek:=a}))],[],.nil,.old 16 16 _ _ _ rfl rfl (.vars _ _ (zb rfl)) .nil,rfl,rfl,rfl⟩
 ·rw[h]at fs ⊢
  show ADCall ..
  refine .mk _ _ (fs) rfl ?_
  refine zYE (by decide) ?_
  show ACall ..
  refine .hand [(16,16)] [(16,.vars (swV g {c with seek:=a}))] [.c (.ptr 16 0 0),.int a] _ (.cons _ _ _ _ (.c _ _ (.ptr _ _ _ _ rfl)) (.cons _ _ _ _ .same .nil)) (.old 16 16 _ _ _ rfl rfl (.vars _ _ (zb rfl)) .nil) rfl (zpS g {c with seek:=a} a hl hs) ?_
  rintro H r ⟨rfl,rfl⟩ _ _
  refine⟨rfl,.inl rfl,?_⟩
  show ARet ..
  exact⟨[(16,16)],[(16,.vars (swV (zfP g a) {c with seek:=a}))],[],.nil,.old 16 16 _ _ _ rfl rfl (.vars _ _ (zb rfl)) .nil,rfl,rfl,rfl⟩
 ·rw[h]at fs ⊢
  show ADCall ..
  refine .mk _ _ (fs) rfl ?_
  refine zYE (by decide) ?_
  show ACall ..
  refine .hand [(16,16)] [(16,.vars (swV g {c with seek:=a}))] [.c (.ptr 16 0 0),.int a] _ (.cons _ _ _ _ (.c _ _ (.ptr _ _ _ _ rfl)) (.cons _ _ _ _ .same .nil)) (.old 16 16 _ _ _ rfl rfl (.vars _ _ (zb rfl)) .nil) rfl (zn0 g {c with seek:=a} a hl ha) ?_
  rintro H r ⟨rfl,rfl⟩ _ _
  refine⟨rfl,.inl rfl,?_⟩
  show ARet ..
  exact⟨[(16,16)],[(16,.vars (swV (zaN g a) {c with seek:=a,met:=true}))],[],.nil,.old 16 16 _ _ _ rfl rfl (.vars _ _ (zb rfl)) .nil,rfl,rfl,rfl⟩
def zfS (g : Hp) (c : Col) : Hp × Col :=
  if zw g [] = true /\ c.phase = 6 then
    (if c.met = true then (zwI g c, { c with met := false })
     else if zj0 g.pages c.seek = true then zpN g c (zO g.pages c.seek)
     else (g, ⟨0, c.epoch, c.major, [], false, 0, 0, 0, 0, false⟩))
  else (g, c)
theorem zwF {l:List Page} {a:Int}:zO l a<9223372036854775808:=by
 unfold zO
 cases h:(cellStarts l).find? fun s=>decide (a<s) with
 |none=>show(0:Int)<_;omega
 |some x=>
  have hx:=List.mem_of_find?_eq_some h
  obtain⟨hm,j,hj⟩:=zac (zq (zn.1 hx))
  have h1:x<16*((j:Int)+2):=hj.hi
  have h2:=hj.lt
  have h3:=(zag hm).2.2
  show x<_
  omega
set_option maxRecDepth 60000 in
set_option maxHeartbeats 2000000 in
theorem zqB (g:Hp) (c:Col) (hl:g.light) (hs:g.small) (hk:c.work.length<=zi):Spec X 164 [] [g.tv,c.tv] (Ret [] (.tup [(zfS g c).1.tv,(zfS g c).2.tv])):=by
 refine zGO X_ok Tryz.f164 fun hb hH=>⟨rfl,?_⟩
 show ACall ..
 refine .mk _ (zsk g c hs hk) fun H r ⟨eH,er⟩ _ _=>⟨.inl rfl,?_⟩
 subst eH er
 show ACall ..
 refine za (zlG g.pages c.seek) rfl ?_
 show ACall ..
 refine za (zbM g hl) rfl ?_
 unfold zfS
 by_cases hm:zw g []=true
 ·show ABr (!zw g []) _ _
  rw[hm]
  refine zNO (by decide) ?_
  show ABr (!decide (c.phase=6)) _ _
  by_cases hp:c.phase=6
  ·rw[if_pos ⟨rfl,hp⟩,decide_eq_true hp]
   refine zNO (by decide) ?_
   show ABr c.met _ _
   refine⟨fun hmet=>?_,fun hmet=>?_⟩
   ·rw[if_pos hmet]
    show ACall ..
    refine .hand [(224,16)] [(16,.vars (swV g c))] [.c (.ptr 16 0 0),.int c.seek] _ (.cons _ _ _ _ (.c _ _ (.ptr _ _ _ _ rfl)) (.cons _ _ _ _ .same .nil)) (.old 16 224 _ _ _ rfl rfl (.vars _ _ (zb rfl)) .nil) rfl (zrg g c hl) ?_
    rintro H r ⟨rfl,rfl⟩ _ _
    refine⟨rfl,.inl rfl,?_⟩
    show ARet ..
    exact zg rfl ⟨rfl,rfl⟩
   ·rw[if_neg (by rw[hmet];decide)]
    show ABr (zj0 g.pages c.seek) _ _
    cases hn:zj0 g.pages c.seek with
    |true=>
     rw[if_pos rfl]
     refine zYE (by decide) ?_
     show ACall ..
     refine .hand [(224,16)] [(16,.vars (swV g c))] [.c (.ptr 16 0 0),.int (zO g.pages c.seek)] _ (.cons _ _ _ _ (.c _ _ (.ptr _ _ _ _ rfl)) (.cons _ _ _ _ .same .nil)) (.old 16 224 _ _ _ rfl rfl (.vars _ _ (zb rfl)) .nil) rfl (zpE g c (zO g.pages c.seek) hl hs zwF) ?_
     rintro H r ⟨rfl,rfl⟩ _ _
     refine⟨rfl,.inl rfl,?_⟩
     show ARet ..
     exact zg rfl ⟨rfl,rfl⟩
    |false=>
     rw[if_neg (by decide)]
     refine zNO (by decide) ?_
     show ACall ..
     refine .hand [(224,16)] [(16,.vars (swV g c))] [.c (.ptr 16 0 0)] _ (.cons _ _ _ _ (.c _ _ (.ptr _ _ _ _ rfl)) .nil) (.old 16 224 _ _ _ rfl rfl (.vars _ _ (zb rfl)) .nil) rfl (zrA g c) ?_
     rintro H r ⟨rfl,rfl⟩ _ _
     refine⟨rfl,.inl rfl,?_⟩
     show ARet ..
     exact zg rfl ⟨rfl,rfl⟩
  ·rw[if_neg (fun k=>hp k.2),decide_eq_false hp]
   refine zYE (by decide) ?_
   show ARet ..
   exact zg rfl ⟨rfl,rfl⟩
 ·show ABr (!zw g []) _ _
  rw[if_neg (fun k=>hm k.1),show zw g []=false by simpa using hm]
  refine zYE (by decide) ?_
  show ABr (!false) _ _
  refine zYE (by decide) ?_
  show ARet ..
  exact zg rfl ⟨rfl,rfl⟩
end Go.Abs
namespace Go.Abs
set_option maxRecDepth 8000
abbrev zhl (g:Hp) (a:Int):Hd:={headH g a with old:=true}
theorem zxx {g:Hp} {a:Int} (h:headE g a=0):PutOk g a (zhl g a)/\zhM g a (zhl g a)=zbT g a (zhl g a).word:=by
 have hu:=(zar h).1
 obtain⟨p,s⟩:=zk0 (x:=zhl g a) h (by have:=(ziD h).1;unfold Hd.May at this ⊢;rw[if_pos hu]at this;rw[if_pos hu];exact this) hu rfl
 exact⟨p,zeV s⟩
inductive SwStep (g:Hp) (c:Col):Hp->Col->Prop
 |idle (h:¬(zw g []=true/\c.phase=6)):SwStep g c g c
 |old (hm:zw g []=true) (hp:c.phase=6) (hmet:c.met=true) (hf:zbF g c c.seek=2) (h0:headE g c.seek=0) (h:PutOk g c.seek (zhl g c.seek)):SwStep g c (zbT g c.seek (zhl g c.seek).word) {c with met:=false}
 |pass (hm:zw g []=true) (hp:c.phase=6) (hmet:c.met=true) (hf:zbF g c c.seek≠2):SwStep g c g {c with met:=false}
 |free (hm:zw g []=true) (hp:c.phase=6) (hmet:c.met=false) (hn:zO g.pages c.seek∈cellStarts g.pages) (hl:c.seek<zO g.pages c.seek) (hq:∀u∈cellStarts g.pages,c.seek<u->zO g.pages c.seek<=u) (hf:zbF g c (zO g.pages c.seek)=1) (h0:headE g (zO g.pages c.seek)=0):SwStep g c (zfP g (zO g.pages c.seek)) {c with seek:=zO g.pages c.seek}
 |dirty (hm:zw g []=true) (hp:c.phase=6) (hmet:c.met=false) (hn:zO g.pages c.seek∈cellStarts g.pages) (hl:c.seek<zO g.pages c.seek) (hq:∀u∈cellStarts g.pages,c.seek<u->zO g.pages c.seek<=u) (hf:zbF g c (zO g.pages c.seek)=2) (h0:headE g (zO g.pages c.seek)=0) (hc:za7 g (zO g.pages c.seek)=0):SwStep g c (cset g (zbw g (zO g.pages c.seek)) true) {c with seek:=zO g.pages c.seek,met:=true}
 |stay (hm:zw g []=true) (hp:c.phase=6) (hmet:c.met=false) (hn:zO g.pages c.seek∈cellStarts g.pages) (hl:c.seek<zO g.pages c.seek) (hq:∀u∈cellStarts g.pages,c.seek<u->zO g.pages c.seek<=u) (hf:zbF g c (zO g.pages c.seek)=0):SwStep g c g {c with seek:=zO g.pages c.seek}
 |done (hm:zw g []=true) (hp:c.phase=6) (hmet:c.met=false) (hn:∀u∈cellStarts g.pages,u<=c.seek):SwStep g c g ⟨0,c.epoch,c.major,[],false,0,0,0,0,false⟩
theorem zpk (l:List Page) (a:Int):(zj0 l a=false/\∀u∈cellStarts l,u<=a)\/(zj0 l a=true/\a<zO l a/\zO l a∈cellStarts l/\∀u∈cellStarts l,a<u->zO l a<=u):=by
 unfold zj0
 cases h:(cellStarts l).find? fun s=>decide (a<s) with
 |none=>
  refine .inl ⟨rfl,fun u hu=>?_⟩
  have:=List.find?_eq_none.1 h u hu
  simpa using this
 |some x=>
  refine .inr ⟨rfl,?_⟩
  have hx:=List.find?_some h
  have hm:=List.mem_of_find?_eq_some h
  have hx:a<x:=of_decide_eq_true hx
  rcases zgq l a with⟨_,h2⟩|h2
  ·have:=h2 x hm;omega
  ·exact h2
theorem zrZ (g:Hp) (c:Col):SwStep g c (zfS g c).1 (zfS g c).2:=by
 unfold zfS
 by_cases hm:zw g []=true/\c.phase=6
 ·rw[if_pos hm]
  obtain⟨hm,hp⟩:=hm
  cases hmet:c.met with
  |true=>
   rw[if_pos rfl]
   unfold zwI
   by_cases hf:zbF g c c.seek=2
   ·rw[if_pos hf]
    have h0:headE g c.seek=0:=by
     rcases zgo g c c.seek with h|⟨h,_⟩|⟨_,h⟩
     ·omega
     ·omega
     ·exact h
    obtain⟨p,e⟩:=zxx h0
    show SwStep g c (zhM g c.seek (zhl g c.seek)) _
    rw[e]
    exact .old hm hp hmet hf h0 p
   ·rw[if_neg hf]
    exact .pass hm hp hmet hf
  |false=>
   rw[if_neg (by decide)]
   rcases zpk g.pages c.seek with⟨h1,h2⟩|⟨h1,h2,h3,h4⟩
   ·rw[h1,if_neg (by decide)]
    exact .done hm hp hmet h2
   ·rw[h1,if_pos rfl]
    unfold zpN
    rcases zgo g c (zO g.pages c.seek) with h|⟨h,h0⟩|⟨h,h0⟩
    ·rw[if_neg (by omega),if_neg (by omega)]
     exact .stay hm hp hmet h3 h2 h4 h
    ·rw[if_pos h]
     exact .free hm hp hmet h3 h2 h4 h h0
    ·rw[if_neg (by omega),if_pos h]
     have hc:za7 g (zO g.pages c.seek)=0:=by
      obtain⟨z1,z2,z3,z4⟩:=zaQ h0
      exact ze4 hm ⟨z2,by omega⟩
     show SwStep g c (zaN g (zO g.pages c.seek)) _
     rw[zkL hc]
     exact .dirty hm hp hmet h3 h2 h4 h h0 hc
 ·rw[if_neg hm]
  exact .idle hm
theorem SwStep.work {g k:Hp} {c d:Col} (s:SwStep g c k d):d.work=c.work\/d.work=[]:=by
 cases s<;>first|exact .inl rfl|exact .inr rfl
theorem SwStep.col {g k:Hp} {c d:Col} (s:SwStep g c k d):d.epoch=c.epoch/\d.major=c.major:=by
 cases s<;>exact⟨rfl,rfl⟩
open Go.Proofs Go.Proofs.YtlankjlnnimdoaaGreatDoor
theorem ziY (g:Hp) (c:Col) (a:Int) (hl:g.light) (hw:∀x∈g.w,I64 x):Spec X 21 [] [g.tv,c.tv,.int a] (Ret [] (.int (atK g c a))):=by
 refine zGO X_ok Tryz.f21 fun hb hH=>⟨rfl,?_⟩
 show ACall ..
 refine za (zj5 g a hl hw) rfl ?_
 unfold atK za3
 obtain⟨x,hx⟩:∃x,x=headH g a:=⟨_,rfl⟩
 rw[←hx]
 by_cases h0:headE g a=0
 ·rw[decide_eq_true h0]
  show ABr (bif (bif !decide (headE g a=0) then true else decide (c.epoch<0)) then true else decide (c.epoch>1048576)) _ _
  rw[decide_eq_true h0]
  by_cases h1:c.epoch<0
  ·rw[decide_eq_true h1]
   refine zYE (by simp) ?_
   show ARet ..
   refine zaA (x:=0) ?_ ⟨rfl,rfl⟩
   cases (bif x.old then !c.major else false)<;>rfl
  ·rw[decide_eq_false h1]
   by_cases h2:c.epoch>1048576
   ·rw[decide_eq_true h2]
    refine zYE (by decide) ?_
    show ARet ..
    refine zaA (x:=0) ?_ ⟨rfl,rfl⟩
    cases (bif x.old then !c.major else false)<;>rfl
   ·rw[decide_eq_false h2]
    refine zNO (by decide) ?_
    show ABr ((bif x.old then !c.major else false)) _ _
    refine⟨fun h=>?_,fun h=>?_⟩
    ·rw[h]
     show ARet ..
     exact zg rfl ⟨rfl,rfl⟩
    ·rw[h]
     show ABr (decide (x.mark<c.epoch)) _ _
     refine⟨fun h=>?_,fun h=>?_⟩
     ·rw[h]
      show ARet ..
      exact zg rfl ⟨rfl,rfl⟩
     ·rw[h]
      cases hd:x.done with
      |true=>
       refine zNO (by decide) ?_
       show ARet ..
       exact zg rfl ⟨rfl,rfl⟩
      |false=>
       refine zYE (by decide) ?_
       show ARet ..
       exact zg rfl ⟨rfl,rfl⟩
 ·rw[decide_eq_false h0]
  show ABr (bif (bif !decide (headE g a=0) then true else decide (c.epoch<0)) then true else decide (c.epoch>1048576)) _ _
  rw[decide_eq_false h0]
  refine zYE (by simp) ?_
  show ARet ..
  exact zg rfl ⟨rfl,rfl⟩
theorem Freed.head {g k:Hp} {a:Int} {cs:List Lists} (f:Freed g k a cs) (u:Int):(headE k u=0↔headE g u=0/\u≠a)/\(headE k u=0->headH k u=headH g u):=by
 have h1:headE k u=0↔headE g u=0/\u≠a:=by
  rw[←zaJ,←zaJ,f.used,List.mem_filter,decide_eq_true_eq]
 refine⟨h1,fun h=>?_⟩
 obtain⟨h2,h3⟩:=h1.1 h
 have hr:=(zG h2).2.1
 have hp:=(zar h2).2
 have:=f.word u h3 hr 0 (Int.le_refl _) (by omega)
 rw[Int.add_zero]at this
 rw[zas h,zas h2,this]
theorem used_len (k:Hp):(zaa k).length<=512:=by
 unfold zaa
 cases zw k [] with
 |false=>exact Nat.zero_le _
 |true=>
  refine Nat.le_trans (List.length_filter_le _ _) ?_
  unfold cellStarts
  rw[List.length_map]
  exact zb0 _
end Go.Abs
namespace Go.Abs
set_option maxRecDepth 8000
theorem zvy {g:Hp} {a v u f:Int} (hm:zw g []=true) (ha:ze g.pages a≠0) (hu:ze g.pages u≠0) (hf:1<=f/\f<ze g.pages u):zf (zbT g a v) (u+f)=zf g (u+f):=by
 obtain⟨_,_,hs,_⟩:=zm (zF hm)
 obtain⟨e1,_,e3⟩:=zaf (zq hu)
 have e1:16<=u:=e1
 have e3:u+ze g.pages u<=16*((g.pages.length:Int)+1):=e3
 rw[zem hs (zak ha) ⟨by omega,by omega⟩,if_neg]
 intro e
 by_cases hne:u=a
 ·omega
 ·have hp:=(zaf (zq ha)).2.1
  have hp:0<ze g.pages a:=hp
  exact zpA ha hu hne ⟨by omega,hf.2⟩ ⟨by omega,by omega⟩
def zyD (k:Hp) (a:Int):Nat:=((cellStarts k.pages).filter fun s=>decide (a<s)).length
end Go.Abs
