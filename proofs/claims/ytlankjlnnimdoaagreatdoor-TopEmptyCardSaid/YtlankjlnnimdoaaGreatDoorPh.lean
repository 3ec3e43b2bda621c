/- Walks and plain laws: WWorld, WTopA, WWorld2, WMut, WMut2, WMut3, WMut4, WMut5, WWorld3. -/
import Derived.Test.YtlankjlnnimdoaaGreatDoorPg
import Derived.Test.YtlankjlnnimdoaaGreatDoorPf
import Derived.Test.YtlankjlnnimdoaaGreatDoorPe
set_option linter.all false
namespace Go.Abs
open Go.Proofs Go.Proofs.YtlankjlnnimdoaaGreatDoor
set_option maxRecDepth 60000
set_option maxHeartbeats 4000000
theorem ziW {α β:Type} [Inhabited α] (f:α->β) {l:List α} {i:Nat} (h:i<l.length):(l.take (i+1)).map f=(l.take i).map f++[f (l.getD i default)]:=by
 rw[List.take_add_one,List.getElem?_eq_getElem h,List.getD_eq_getElem?_getD,List.getElem?_eq_getElem h,List.map_append]
 rfl
theorem zdM {α:Type} [Inhabited α] {l:List α} {i:Nat} (h:i<l.length):l.getD i default∈l:=by
 rw[List.getD_eq_getElem?_getD,List.getElem?_eq_getElem h]
 exact List.getElem_mem h
theorem zoJ (w:Wd) (hl:w.t.length<=4) (hc:∀t∈w.t,t.ok):Spec X 68 [] [w.tv] (Ret [(0,.data .lists (zT w))] (.c (.own 0))):=by
 refine zGO X_ok Tryz.f68 fun hb hH=>⟨rfl,?_⟩
 show ∃n,_
 refine⟨0,ALoop.inv (ι:={i:Nat // i<=w.t.length}) (fun q=>⟨[(3,.c (.own 1)),(10,.c (.d (.sl .thread (w.t)))),(11,.int ((w.t.length:Int))),(12,.int (q.1))],[(1,.data .lists ((w.t.take q.1).map (·.cache)))],64⟩) (fun q=>w.t.length-q.1) ⟨0,Nat.zero_le _⟩ ?_ ?_⟩
 ·exact⟨[],(by repeat' first|exact .nil|refine .cons _ _ _ ?_ ?_|exact .c _ _ (.nilown 1 .lists rfl rfl)|exact .same|exact .c _ _ (.own _ _ rfl)|exact .c _ _ (.ptr _ _ _ _ rfl)|exact .c _ _ (.frz _ _ rfl)|exact .any _),(by exact .new 1 .lists _ rfl .nil),(by rfl)⟩
 rintro⟨i,hi⟩
 show ABr (decide ((i:Int)<(w.t.length:Int))) _ _
 refine⟨fun h=>?_,fun h=>?_⟩
 ·have hlt:i<w.t.length:=by simpa using h
  have wi:IntKind.i64.wrap ((i:Int)+1)=((i+1:Nat):Int):=zad (i:=i) (by unfold zE;omega)
  show AOb ((0:Int)<=(i:Int)/\(i:Int)<(w.t.length:Int)) _
  refine⟨by omega,?_⟩
  obtain⟨_,t2,t3,t4⟩:=hc _ (zdM hlt)
  show ∃n,_
  refine⟨4,?_⟩
  show ALoop ..
  refine .next ?_
  refine zYE (by decide) ?_
  show AOb ..
  refine⟨by decide,?_⟩
  show ACall ..
  refine za (zd (w.t.getD i default).cache.l0 t2) rfl ?_
  show AOb ..
  refine⟨by decide,?_⟩
  show ALoop ..
  refine .next ?_
  refine zYE (by decide) ?_
  show AOb ..
  refine⟨by decide,?_⟩
  show ACall ..
  refine za (zd (w.t.getD i default).cache.l1 t3) rfl ?_
  show AOb ..
  refine⟨by decide,?_⟩
  show ALoop ..
  refine .next ?_
  refine zYE (by decide) ?_
  show AOb ..
  refine⟨by decide,?_⟩
  show ACall ..
  refine za (zd (w.t.getD i default).cache.l2 t4) rfl ?_
  show AOb ..
  refine⟨by decide,?_⟩
  show ALoop ..
  refine .next ?_
  refine zNO (by decide) ?_
  show AOb (((w.t.take i).map (·.cache)).length+1<=zk) _
  refine⟨by rw[List.length_map,List.length_take];unfold zk;omega,?_⟩
  show ARound ..
  exact⟨⟨i+1,hlt⟩,(by dsimp only;omega),[(_,1)],(by repeat' first|exact .nil|refine .cons _ _ _ ?_ ?_|exact .c _ _ (.own1 _ _)|exact .int_eq wi|exact .same|exact .c _ _ (.own _ _ rfl)|exact .c _ _ (.ptr _ _ _ _ rfl)|exact .c _ _ (.frz _ _ rfl)|exact .any _),(by exact .old 1 _ _ _ _ rfl rfl (.data_eq (ziW (·.cache) hlt).symm) .nil),(by rfl)⟩
 ·have hfin:(w.t.take i).map (·.cache)=zT w:=by
   rw[show i=w.t.length by simp at h;omega,List.take_length];rfl
  show ARet ..
  exact⟨[(1,0)],[(0,.data .lists (zT w))],[.c (.own 0)],.cons _ _ _ _ (.c _ _ (.own1 _ _)) .nil,.old 0 1 _ _ _ rfl rfl (.data_eq hfin) .nil,rfl,rfl,rfl⟩
theorem zm6 (w:Wd) (hl:w.t.length<=4) (hc:∀t∈w.t,t.ok):Spec X 68 [(16,.data .thread w.t),(17,.data .res w.log)] [.agg (wdO w 16 17)] (fun H r=>H=[(0,.data .lists (zT w)),(16,.data .thread w.t),(17,.data .res w.log)]/\r = .c (.own 0)):=by
 refine zGO X_ok Tryz.f68 fun hb hH=>⟨rfl,?_⟩
 show ∃n,_
 refine⟨0,ALoop.inv (ι:={i:Nat // i<=w.t.length}) (fun q=>⟨[(3,.c (.own 1)),(10,.c (.own 16)),(11,.int ((w.t.length:Int))),(12,.int (q.1))],[(1,.data .lists ((w.t.take q.1).map (·.cache))),(16,.data .thread w.t),(17,.data .res w.log)],64⟩) (fun q=>w.t.length-q.1) ⟨0,Nat.zero_le _⟩ ?_ ?_⟩
 ·exact⟨[(16,16),(17,17)],(by repeat' first|exact .nil|refine .cons _ _ _ ?_ ?_|exact .c _ _ (.nilown 1 .lists rfl rfl)|exact .same|exact .c _ _ (.own _ _ rfl)|exact .c _ _ (.ptr _ _ _ _ rfl)|exact .c _ _ (.frz _ _ rfl)|exact .any _),(by exact .new 1 .lists _ rfl (.old 16 16 _ _ _ rfl rfl (.data_eq rfl) (.old 17 17 _ _ _ rfl rfl (.data_eq rfl) .nil))),(by rfl)⟩
 rintro⟨i,hi⟩
 show ABr (decide ((i:Int)<(w.t.length:Int))) _ _
 refine⟨fun h=>?_,fun h=>?_⟩
 ·have hlt:i<w.t.length:=by simpa using h
  have wi:IntKind.i64.wrap ((i:Int)+1)=((i+1:Nat):Int):=zad (i:=i) (by unfold zE;omega)
  show AOb ((0:Int)<=(i:Int)/\(i:Int)<(w.t.length:Int)) _
  refine⟨by omega,?_⟩
  obtain⟨_,t2,t3,t4⟩:=hc _ (zdM hlt)
  show AOb ..
  refine⟨by exact hlt,?_⟩
  show ∃n,_
  refine⟨4,?_⟩
  show ALoop ..
  refine .next ?_
  refine zYE (by decide) ?_
  show AOb ..
  refine⟨by decide,?_⟩
  show ACall ..
  refine za (zd (w.t.getD i default).cache.l0 t2) rfl ?_
  show AOb ..
  refine⟨by decide,?_⟩
  show ALoop ..
  refine .next ?_
  refine zYE (by decide) ?_
  show AOb ..
  refine⟨by decide,?_⟩
  show ACall ..
  refine za (zd (w.t.getD i default).cache.l1 t3) rfl ?_
  show AOb ..
  refine⟨by decide,?_⟩
  show ALoop ..
  refine .next ?_
  refine zYE (by decide) ?_
  show AOb ..
  refine⟨by decide,?_⟩
  show ACall ..
  refine za (zd (w.t.getD i default).cache.l2 t4) rfl ?_
  show AOb ..
  refine⟨by decide,?_⟩
  show ALoop ..
  refine .next ?_
  refine zNO (by decide) ?_
  show AOb (((w.t.take i).map (·.cache)).length+1<=zk) _
  refine⟨by rw[List.length_map,List.length_take];unfold zk;omega,?_⟩
  show ARound ..
  exact⟨⟨i+1,hlt⟩,(by dsimp only;omega),[(_,1),(16,16),(17,17)],(by repeat' first|exact .nil|refine .cons _ _ _ ?_ ?_|exact .c _ _ (.own1 _ _)|exact .c _ _ (.own _ _ rfl)|exact .int_eq wi|exact .same|exact .c _ _ (.own _ _ rfl)|exact .c _ _ (.ptr _ _ _ _ rfl)|exact .c _ _ (.frz _ _ rfl)|exact .any _),(by exact .old 1 _ _ _ _ rfl rfl (.data_eq (ziW (·.cache) hlt).symm) (.old 16 16 _ _ _ rfl rfl (.data_eq rfl) (.old 17 17 _ _ _ rfl rfl (.data_eq rfl) .nil))),(by rfl)⟩
 ·have hfin:(w.t.take i).map (·.cache)=zT w:=by
   rw[show i=w.t.length by simp at h;omega,List.take_length];rfl
  show ARet ..
  exact⟨[(1,0),(16,16),(17,17)],[(0,.data .lists (zT w)),(16,.data .thread w.t),(17,.data .res w.log)],[.c (.own 0)],.cons _ _ _ _ (.c _ _ (.own _ _ rfl)) .nil,.old 0 1 _ _ _ rfl rfl (.data_eq hfin) (.old 16 16 _ _ _ rfl rfl (.data_eq rfl) (.old 17 17 _ _ _ rfl rfl (.data_eq rfl) .nil)),rfl,rfl,rfl⟩
theorem zsl (t:Thread):Spec X 69 [] (t.tv::zdi []) (Ret [] (.bo (!decide t.mayT))):=by
 refine zGO X_ok Tryz.f69 fun hb _=>⟨rfl,?_⟩
 show ACall ..
 refine za (zmX t) rfl ?_
 show ARet ..
 exact zi rfl ⟨rfl,rfl⟩
theorem zjQ (w:Wd) (hc:∀t∈w.t,t.ok) (hf:w.t.length<=4->(zn (zeL w.h (zT w))).length<=zk):Spec X 36 [] [w.tv] (Ret [] (.bo (zQ w))):=by
 refine zGO X_ok Tryz.f36 fun hb hH=>⟨rfl,?_⟩
 unfold zQ
 show ABr (decide ((w.t.length:Int)<=4)) _ _
 by_cases h1:w.t.length<=4
 ·rw[decide_eq_true (show(w.t.length:Int)<=4 by omega),decide_eq_true h1]
  refine zYE (by decide) ?_
  show ADCall ..
  refine .mk _ _ (zg0 w.t 69 [] (fun t=>!decide t.mayT) (fun x _=>zsl x)) rfl ?_
  cases h2:w.t.any fun t=>!decide t.mayT with
  |true=>
   refine zNO (by decide) ?_
   refine zNO (by decide) ?_
   show ARet ..
   exact zi rfl ⟨rfl,rfl⟩
  |false=>
   refine zYE (by decide) ?_
   show ADCall ..
   refine .mk _ _ (zgg w.c) rfl ?_
   cases h3:zbi w.c with
   |false=>
    refine zNO (by decide) ?_
    show ARet ..
    exact zi rfl ⟨rfl,rfl⟩
   |true=>
    refine zYE (by decide) ?_
    show ADCall ..
    refine .mk _ _ (zoJ w h1 hc) rfl ?_
    show ADCall ..
    refine .mk _ _ (zsC w.h (zT w) (hf h1) (by unfold zT;rw[List.length_map];unfold zk;omega)) rfl ?_
    show ARet ..
    exact zi rfl ⟨rfl,rfl⟩
 ·rw[decide_eq_false (show ¬(w.t.length:Int)<=4 by omega),decide_eq_false h1]
  refine zNO (by decide) ?_
  refine zNO (by decide) ?_
  refine zNO (by decide) ?_
  show ARet ..
  exact zi rfl ⟨rfl,rfl⟩
theorem zoa (l:List Thread) (h:l.length<=zk):Spec X 66 [] [.c (.d (.sl .thread l))] (Ret [(0,.data .thread l)] (.c (.own 0))):=by
 refine zGO X_ok Tryz.f66 fun hb _=>⟨rfl,?_⟩
 intro b (hnil:b=true->l=[])
 show ABr ..
 refine⟨fun hb=>?_,fun hb=>?_⟩
 ·have e:=hnil hb
  subst e
  show ARet ..
  exact⟨[],[(0,.data .thread [])],[.c (.own 0)],.cons _ _ _ _ (.c _ _ (.nilown 0 .thread rfl rfl)) .nil,.new 0 .thread _ rfl .nil,rfl,rfl,rfl⟩
 ·show AOb (0+l.length<=zk) _
  refine⟨by omega,?_⟩
  show ARet ..
  exact⟨[(_,0)],[(0,.data .thread l)],[.c (.own 0)],.cons _ _ _ _ (.c _ _ (.own1 _ _)) .nil,.old 0 _ _ _ _ rfl rfl (.data_eq rfl) .nil,rfl,rfl,rfl⟩
theorem zmZ (l:List Res) (h:l.length<=zk):Spec X 67 [] [.c (.d (.sl .res l))] (Ret [(0,.data .res l)] (.c (.own 0))):=by
 refine zGO X_ok Tryz.f67 fun hb _=>⟨rfl,?_⟩
 intro b (hnil:b=true->l=[])
 show ABr ..
 refine⟨fun hb=>?_,fun hb=>?_⟩
 ·have e:=hnil hb
  subst e
  show ARet ..
  exact⟨[],[(0,.data .res [])],[.c (.own 0)],.cons _ _ _ _ (.c _ _ (.nilown 0 .res rfl rfl)) .nil,.new 0 .res _ rfl .nil,rfl,rfl,rfl⟩
 ·show AOb (0+l.length<=zk) _
  refine⟨by omega,?_⟩
  show ARet ..
  exact⟨[(_,0)],[(0,.data .res l)],[.c (.own 0)],.cons _ _ _ _ (.c _ _ (.own1 _ _)) .nil,.old 0 _ _ _ _ rfl rfl (.data_eq rfl) .nil,rfl,rfl,rfl⟩
theorem zmm {α:Type} [Inhabited α] {l:List α} {i:Nat} (h:i<l.length):l.set i (l.getD i default)=l:=by
 rw[List.getD_eq_getElem?_getD,List.getElem?_eq_getElem h]
 exact List.set_getElem_self h
theorem zty {l:List Thread} {i j:Nat} {x:Thread} (h:j<l.length):j<(l.set i x).length:=by rw[List.length_set];exact h
theorem zxG {l:List Thread} {i:Nat} (h:i<l.length):(l.set i (l.getD i default)).set i {(l.set i (l.getD i default)).getD i default with cache:=(l.map (·.cache)).getD i default}=l:=by
 rw[zmm h]
 have e:(l.map (·.cache)).getD i default=(l.getD i default).cache:=by
  rw[List.getD_eq_getElem?_getD,List.getD_eq_getElem?_getD,List.getElem?_map,List.getElem?_eq_getElem h]
  rfl
 rw[e]
 exact zmm h
theorem zho (w:Wd) (hF:w.Fit):Spec X 35 [] [w.tv] (Ret [(0,.data .thread w.t),(1,.data .res w.log)] (.agg (wdO w 0 1))):=by
 refine zGO X_ok Tryz.f35 fun hb hH=>⟨rfl,?_⟩
 obtain⟨⟨h1,h2,h3,h4,h5,h6⟩,hw,hl,hth,_,hlog⟩:=hF
 show ADCall ..
 refine .mk _ _ (zd w.h.w h1) rfl ?_
 show ADCall ..
 refine .mk _ _ (zac w.h.pages h2) rfl ?_
 show ADCall ..
 refine .mk _ _ (zah w.h.cards h3) rfl ?_
 show ∃n,_
 refine⟨4,?_⟩
 show ALoop ..
 refine .next ?_
 refine zYE (by decide) ?_
 show AOb ..
 refine⟨by decide,?_⟩
 show ACall ..
 refine za (zd w.h.free.l0 h4) rfl ?_
 show AOb ..
 refine⟨by decide,?_⟩
 show ALoop ..
 refine .next ?_
 refine zYE (by decide) ?_
 show AOb ..
 refine⟨by decide,?_⟩
 show ACall ..
 refine za (zd w.h.free.l1 h5) rfl ?_
 show AOb ..
 refine⟨by decide,?_⟩
 show ALoop ..
 refine .next ?_
 refine zYE (by decide) ?_
 show AOb ..
 refine⟨by decide,?_⟩
 show ACall ..
 refine za (zd w.h.free.l2 h6) rfl ?_
 show AOb ..
 refine⟨by decide,?_⟩
 show ALoop ..
 refine .next ?_
 refine zNO (by decide) ?_
 show ADCall ..
 refine .mk _ _ (zd w.c.work (Nat.le_of_lt hw)) rfl ?_
 show ADCall ..
 refine .mk _ _ (zoa w.t (by unfold zk;omega)) rfl ?_
 show ADCall ..
 refine .mk _ _ (zmZ w.log (Nat.le_of_lt hlog)) rfl ?_
 show ACall ..
 refine .hand [(2464,16),(2560,17)] [(16,.data .thread w.t),(17,.data .res w.log)] [.agg (wdO w 16 17)] _ (.cons _ _ _ _ (.agg _ _ ?_) .nil) (.old 16 2464 _ _ _ rfl rfl (.data_eq rfl) (.old 17 2560 _ _ _ rfl rfl (.data_eq rfl) .nil)) rfl (zm6 w hl fun t ht=>(hth t ht).1) ?_
 ·repeat (first|exact .nil|refine .cons _ _ _ _ (.d _) ?_|refine .cons _ _ _ _ (.own _ _ rfl) ?_)
 rintro H r ⟨rfl,rfl⟩ _ _
 refine⟨rfl,.inl rfl,?_⟩
 show ∃n,_
 refine⟨0,ALoop.inv (ι:={i:Nat // i<=w.t.length}) (fun q=>⟨[(1,.c (.ptr 0 0 0)),(2,.c (.ptr 1 0 0)),(5,.c (.own 4)),(57,.int ((w.t.length:Int))),(58,.int (q.1))],[(0,.vars (wdO w 2 3)),(1,.vars (List.replicate 18 .any)),(2,.data .thread w.t),(3,.data .res w.log),(4,.data .lists (zT w))],64⟩) (fun q=>w.t.length-q.1) ⟨0,Nat.zero_le _⟩ ?_ ?_⟩
 ·exact⟨[(32,0),(64,1),(2464,2),(2560,3),(2848,4)],(by repeat' first|exact .nil|refine .cons _ _ _ ?_ ?_|exact .c _ _ (.ptr _ _ _ _ rfl)|exact .c _ _ (.own _ _ rfl)|exact .same|exact .c _ _ (.own _ _ rfl)|exact .c _ _ (.ptr _ _ _ _ rfl)|exact .c _ _ (.frz _ _ rfl)|exact .any _),(by exact .old 0 32 _ _ _ rfl rfl (.vars _ _ (by repeat (first|exact .nil|refine .cons _ _ _ _ (.d _) ?_|refine .cons _ _ _ _ (.own _ _ rfl) ?_))) (.old 1 64 _ _ _ rfl rfl (.vars _ _ (by repeat (first|exact .nil|refine .cons _ _ _ _ (.any _) ?_))) (.old 2 2464 _ _ _ rfl rfl (.data_eq rfl) (.old 3 2560 _ _ _ rfl rfl (.data_eq rfl) (.old 4 2848 _ _ _ rfl rfl (.data_eq rfl) .nil))))),(by rfl)⟩
 rintro⟨i,hi⟩
 show ABr (decide ((i:Int)<(w.t.length:Int))) _ _
 refine⟨fun h=>?_,fun h=>?_⟩
 ·have hlt:i<w.t.length:=by simpa using h
  have wi:IntKind.i64.wrap ((i:Int)+1)=((i+1:Nat):Int):=zad (i:=i) (by unfold zE;omega)
  have hcl:i<(zT w).length:=by unfold zT;rw[List.length_map];exact hlt
  show AOb ..
  refine⟨by exact⟨Int.natCast_nonneg _,Int.ofNat_lt.2 hlt⟩,?_⟩
  show AOb ..
  refine⟨by exact hlt,?_⟩
  show ADCall ..
  refine .mk _ _ (zck (w.t.getD i default).ops (hth _ (zdM hlt)).1.1) rfl ?_
  show AOb ..
  refine⟨by exact⟨Int.natCast_nonneg _,Int.ofNat_lt.2 hcl⟩,?_⟩
  show AOb ..
  refine⟨by exact hcl,?_⟩
  show AOb ..
  refine⟨by exact⟨Int.natCast_nonneg _,Int.ofNat_lt.2 hlt⟩,?_⟩
  show AOb ..
  refine⟨by exact hlt,?_⟩
  show AOb ..
  refine⟨by exact⟨Int.natCast_nonneg _,Int.ofNat_lt.2 (zty hlt)⟩,?_⟩
  show AOb ..
  refine⟨by exact zty hlt,?_⟩
  show ARound ..
  exact⟨⟨i+1,hlt⟩,(by dsimp only;omega),[(0,0),(1,1),(2,2),(3,3),(4,4)],(by repeat' first|exact .nil|refine .cons _ _ _ ?_ ?_|exact .c _ _ (.ptr _ _ _ _ rfl)|exact .c _ _ (.own _ _ rfl)|exact .int_eq wi|exact .same|exact .c _ _ (.own _ _ rfl)|exact .c _ _ (.ptr _ _ _ _ rfl)|exact .c _ _ (.frz _ _ rfl)|exact .any _),(by exact .old 0 0 _ _ _ rfl rfl (.vars _ _ (by repeat (first|exact .nil|refine .cons _ _ _ _ (.d _) ?_|refine .cons _ _ _ _ (.own _ _ rfl) ?_))) (.old 1 1 _ _ _ rfl rfl (.vars _ _ (by repeat (first|exact .nil|refine .cons _ _ _ _ (.any _) ?_))) (.old 2 2 _ _ _ rfl rfl (.data_eq (zxG hlt)) (.old 3 3 _ _ _ rfl rfl (.data_eq rfl) (.old 4 4 _ _ _ rfl rfl (.data_eq rfl) .nil))))),(by rfl)⟩
 ·show ARet ..
  exact⟨[(2,0),(3,1)],[(0,.data .thread w.t),(1,.data .res w.log)],[.agg (wdO w 0 1)],.cons _ _ _ _ (.agg _ _ (by repeat (first|exact .nil|refine .cons _ _ _ _ (.d _) ?_|refine .cons _ _ _ _ (.own _ _ rfl) ?_))) .nil,.old 0 2 _ _ _ rfl rfl (.data_eq rfl) (.old 1 3 _ _ _ rfl rfl (.data_eq rfl) .nil),rfl,rfl,rfl⟩
end Go.Abs
namespace Go.Abs
set_option maxRecDepth 8000
structure ColSame (c d:Col):Prop where
 epoch:d.epoch=c.epoch
 phase:d.phase=c.phase
 major:d.major=c.major
theorem ColSame.refl (c:Col):ColSame c c:=⟨rfl,rfl,rfl⟩
theorem ColSame.trans {a b c:Col} (h:ColSame a b) (k:ColSame b c):ColSame a c:=⟨k.epoch.trans h.epoch,k.phase.trans h.phase,k.major.trans h.major⟩
theorem zio (g:Hp) (c:Col) (a:Int):ColSame c (zG g c a):=by
 unfold zG
 cases decide (atK g c a=1) with
 |false=>exact .refl c
 |true=>cases decide ((c.work.length:Int)<4)<;>exact⟨rfl,rfl,rfl⟩
theorem zmM (g:Hp) (c:Col) (t:Thread):ColSame c (ansC g c t):=by
 unfold ansC
 split
 ·exact zio g c _
 ·exact .refl c
def ThSame (t u:Thread):Prop:=u.live=false\/(u.live=t.live/\u.epoch=t.epoch/\u.stage=t.stage)
structure MuSame (m k:Mu):Prop where
 c:ColSame m.c k.c
 t:ThSame m.t k.t
theorem ThSame.refl (t:Thread):ThSame t t:=.inr ⟨rfl,rfl,rfl⟩
theorem ThSame.trans {a b c:Thread} (h:ThSame a b) (k:ThSame b c):ThSame a c:=by
 rcases k with k|⟨k1,k2,k3⟩
 ·exact .inl k
 ·rcases h with h|⟨h1,h2,h3⟩
  ·exact .inl (k1.trans h)
  ·exact .inr ⟨k1.trans h1,k2.trans h2,k3.trans h3⟩
theorem MuSame.refl (m:Mu):MuSame m m:=⟨.refl _,.refl _⟩
theorem MuSame.trans {a b c:Mu} (h:MuSame a b) (k:MuSame b c):MuSame a c:=⟨h.c.trans k.c,h.t.trans k.t⟩
theorem zcs (m:Mu) (e v:Int):MuSame m (endM m e v):=⟨.refl _,.inr ⟨rfl,rfl,rfl⟩⟩
theorem zpf (m:Mu) (r a:Int):MuSame m (zcw m r a):=by
 unfold zcw Thread.setReg
 split
 ·refine⟨.refl _,.inr ?_⟩
  show(ite _ _ _:Thread).live=_/\(ite _ _ _:Thread).epoch=_/\(ite _ _ _:Thread).stage=_
  split
  ·exact⟨rfl,rfl,rfl⟩
  ·split
   ·exact⟨rfl,rfl,rfl⟩
   ·split<;>exact⟨rfl,rfl,rfl⟩
 ·exact .refl m
theorem zjC (m:Mu) (a:Int):MuSame m (shadeM m a):=by
 refine⟨?_,.inr ⟨rfl,rfl,rfl⟩⟩
 show ColSame m.c (if zga m.c m.t=true then zG m.h m.c a else m.c)
 split
 ·exact zio _ _ _
 ·exact .refl _
theorem zv6 (m:Mu):MuSame m (zdB m):=by
 unfold zdB
 split
 ·unfold createM
  split
  ·exact(zpf _ _ _).trans (zcs _ _ _)
  ·split
   ·exact zcs _ _ _
   ·split
    ·exact zcs _ _ _
    ·exact⟨.refl _,.inr ⟨rfl,rfl,rfl⟩⟩
 ·split
  ·unfold loadM
   split
   ·exact zcs _ _ _
   ·split
    ·exact zcs _ _ _
    ·exact(zpf _ _ _).trans (zcs _ _ _)
  ·split
   ·unfold storeM
    split
    ·unfold zg8
     split
     ·exact zcs _ _ _
     ·exact⟨.refl _,.inr ⟨rfl,rfl,rfl⟩⟩
    ·split
     ·exact zjC _ _
     ·split
      ·exact zjC _ _
      ·split
       ·unfold zgR
        split
        ·exact zcs _ _ _
        ·exact⟨.refl _,.inr ⟨rfl,rfl,rfl⟩⟩
       ·unfold zgV
        split<;>exact⟨.refl _,.inr ⟨rfl,rfl,rfl⟩⟩
   ·split
    ·exact(zpf _ _ _).trans (zcs _ _ _)
    ·split
     ·exact zcs _ _ _
     ·split
      ·exact zcs _ _ _
      ·split
       ·exact⟨.refl _,.inl rfl⟩
       ·exact zcs _ _ _
theorem ztB (g:Hp) (c:Col) (t:Thread):MuSame ⟨g,c,t,Res.zero,false⟩ (mutS g c t):=by
 unfold mutS
 split
 ·exact zv6 _
 ·exact .refl _
theorem zat {l:List Thread} {i:Nat} {x t:Thread} (h:t∈l.set i x):t∈l\/t=x:=List.mem_or_eq_of_mem_set h
theorem zb6 {w:Wd} {n:Int} (h:zfd w n=true):thW w n∈w.t:=by
 have hr:0<=n/\n<(w.t.length:Int):=of_decide_eq_true h
 have hlt:n.toNat<w.t.length:=by omega
 show w.t.getD n.toNat default∈w.t
 rw[List.getD_eq_getElem?_getD,List.getElem?_eq_getElem hlt]
 exact List.getElem_mem hlt
open Go.Proofs Go.Proofs.YtlankjlnnimdoaaGreatDoor
set_option maxRecDepth 60000
set_option maxHeartbeats 4000000
theorem zuQ {L:List Lists} {x:Lists} (h:x∈L):x.flat.length<=(zn L).length:=by
 unfold zn
 induction L with
 |nil=>cases h
 |cons y r ih=>
  rw[List.flatMap_cons,List.length_append]
  rcases List.mem_cons.1 h with rfl|h
  ·omega
  ·have:=ih h;omega
theorem Wd.Fit.light {w:Wd} (h:w.Fit):w.h.light:=by
 have:=h.flat
 unfold Hp.light
 unfold zn at this ⊢
 rw[List.flatMap_cons,List.length_append]at this
 rw[List.flatMap_cons,List.length_append]
 show _+0<=_
 omega
theorem Wd.Fit.one {w:Wd} (h:w.Fit) {t:Thread} (ht:t∈w.t):(zn (zeL w.h [t.cache])).length<=zk:=by
 have h1:=h.flat
 have h2:t.cache.flat.length<=(zn (zT w)).length:=zuQ (List.mem_map_of_mem ht)
 unfold zn at h1 h2 ⊢
 rw[List.flatMap_cons,List.length_append]at h1
 rw[List.flatMap_cons,List.length_append,List.flatMap_cons,List.length_append]
 show _+(_+0)<=_
 omega
abbrev rnH (w:Wd):zg:=[(16,.vars (wdO w 17 18)),(17,.data .thread w.t),(18,.data .res w.log)]
theorem zre (w:Wd) (n:Int):Spec X 113 [] [.c (.d (.rp w.cells)),.int n] (Ret [] (.bo (zfd w n))):=by
 refine zGO X_ok Tryz.f113 fun hb hH=>⟨rfl,?_⟩
 show ARet ..
 refine zt (x:=bif decide (n>=0) then decide (n<(w.t.length:Int)) else false) ?_ ⟨rfl,rfl⟩
 unfold zfd
 by_cases h:n>=0
 ·rw[decide_eq_true h]
  show decide _=decide _
  rw[decide_eq_decide]
  omega
 ·rw[decide_eq_false h,show decide (0<=n/\n<(w.t.length:Int))=false from decide_eq_false (by omega)]
  rfl
theorem zkN (w:Wd) (m:Bool):Spec X 118 (rnH w) [.c (.ptr 16 0 0),.bo m] (fun H r=>H=rnH (startW w m)/\r = .int (zay w.c)):=by
 refine zGO X_ok Tryz.f118 fun hb hH=>⟨rfl,?_⟩
 unfold startW
 show ACall ..
 refine za (zoX w.c m) rfl ?_
 show ABr (zay w.c==0) _ _
 by_cases h:zay w.c=0
 ·rw[if_pos h,show(zay w.c==0)=true by simpa using h]
  refine zYE (by decide) ?_
  show ARet ..
  exact⟨[(16,16),(17,17),(18,18)],rnH ({w with c:=zbS w.c m}),[.int (zay w.c)],.cons _ _ _ _ .same .nil,.old 16 16 _ _ _ rfl rfl (.vars _ _ (by repeat (first|exact .nil|refine .cons _ _ _ _ (.d _) ?_|refine .cons _ _ _ _ (.own _ _ rfl) ?_))) (.old 17 17 _ _ _ rfl rfl (.data_eq rfl) (.old 18 18 _ _ _ rfl rfl (.data_eq rfl) .nil)),rfl,rfl,rfl⟩
 ·rw[if_neg h,show(zay w.c==0)=false by simpa using h]
  refine zNO (by decide) ?_
  show ARet ..
  exact⟨[(16,16),(17,17),(18,18)],rnH (w),[.int (zay w.c)],.cons _ _ _ _ .same .nil,.old 16 16 _ _ _ rfl rfl (.vars _ _ (by repeat (first|exact .nil|refine .cons _ _ _ _ (.d _) ?_|refine .cons _ _ _ _ (.own _ _ rfl) ?_))) (.old 17 17 _ _ _ rfl rfl (.data_eq rfl) (.old 18 18 _ _ _ rfl rfl (.data_eq rfl) .nil)),rfl,rfl,rfl⟩
theorem zpK (w:Wd) (n:Int):Spec X 76 (rnH w) [.c (.ptr 16 0 0),.int n] (fun H r=>H=rnH (startW w false)/\r = .int (zay w.c)):=by
 refine zGO X_ok Tryz.f76 fun hb hH=>⟨rfl,?_⟩
 show ACall ..
 refine .hand [(16,16),(17,17),(18,18)] (rnH w) [.c (.ptr 16 0 0),.bo false] _ (.cons _ _ _ _ (.c _ _ (.ptr _ _ _ _ rfl)) (.cons _ _ _ _ .same .nil)) (.old 16 16 _ _ _ rfl rfl (.vars _ _ (by repeat (first|exact .nil|refine .cons _ _ _ _ (.d _) ?_|refine .cons _ _ _ _ (.own _ _ rfl) ?_))) (.old 17 17 _ _ _ rfl rfl (.data_eq rfl) (.old 18 18 _ _ _ rfl rfl (.data_eq rfl) .nil))) rfl (zkN w false) ?_
 rintro H r ⟨rfl,rfl⟩ _ _
 refine⟨rfl,.inl rfl,?_⟩
 generalize startW w false=w'
 show ARet ..
 exact⟨[(16,16),(17,17),(18,18)],rnH (w'),[.int (zay w.c)],.cons _ _ _ _ .same .nil,.old 16 16 _ _ _ rfl rfl (.vars _ _ (by repeat (first|exact .nil|refine .cons _ _ _ _ (.d _) ?_|refine .cons _ _ _ _ (.own _ _ rfl) ?_))) (.old 17 17 _ _ _ rfl rfl (.data_eq rfl) (.old 18 18 _ _ _ rfl rfl (.data_eq rfl) .nil)),rfl,rfl,rfl⟩
theorem zpT (w:Wd) (n:Int):Spec X 77 (rnH w) [.c (.ptr 16 0 0),.int n] (fun H r=>H=rnH (startW w true)/\r = .int (zay w.c)):=by
 refine zGO X_ok Tryz.f77 fun hb hH=>⟨rfl,?_⟩
 show ACall ..
 refine .hand [(16,16),(17,17),(18,18)] (rnH w) [.c (.ptr 16 0 0),.bo true] _ (.cons _ _ _ _ (.c _ _ (.ptr _ _ _ _ rfl)) (.cons _ _ _ _ .same .nil)) (.old 16 16 _ _ _ rfl rfl (.vars _ _ (by repeat (first|exact .nil|refine .cons _ _ _ _ (.d _) ?_|refine .cons _ _ _ _ (.own _ _ rfl) ?_))) (.old 17 17 _ _ _ rfl rfl (.data_eq rfl) (.old 18 18 _ _ _ rfl rfl (.data_eq rfl) .nil))) rfl (zkN w true) ?_
 rintro H r ⟨rfl,rfl⟩ _ _
 refine⟨rfl,.inl rfl,?_⟩
 generalize startW w true=w'
 show ARet ..
 exact⟨[(16,16),(17,17),(18,18)],rnH (w'),[.int (zay w.c)],.cons _ _ _ _ .same .nil,.old 16 16 _ _ _ rfl rfl (.vars _ _ (by repeat (first|exact .nil|refine .cons _ _ _ _ (.d _) ?_|refine .cons _ _ _ _ (.own _ _ rfl) ?_))) (.old 17 17 _ _ _ rfl rfl (.data_eq rfl) (.old 18 18 _ _ _ rfl rfl (.data_eq rfl) .nil)),rfl,rfl,rfl⟩
abbrev rnF (w:Wd):zg:=[(16,.vars ((w.h.enc++w.c.enc).map CV.d++[.d (.sl .thread w.t),.own 18])),(17,.dead),(18,.data .res w.log)]
theorem zun (w:Wd) (n:Int) (hF:w.Fit):Spec X 75 (rnH w) [.c (.ptr 16 0 0),.int n] (fun H r=>H=rnF (colW w)/\r = .int 0):=by
 refine zGO X_ok Tryz.f75 fun hb hH=>⟨rfl,?_⟩
 have hlt:w.h.light:=hF.light
 obtain⟨hs,hw,hl,hth,hfl,hlog⟩:=hF
 show ADCall ..
 refine .any (.tup [(zbN w.h w.c w.t).1.tv,(zbN w.h w.c w.t).2.tv]) [(16,.vars ((w.h.enc++w.c.enc).map CV.d++[.d (.sl .thread w.t),.own 18])),(17,.dead)] (.frz [17] [(16,.vars ((w.h.enc++w.c.enc).map CV.d++[.d (.sl .thread w.t),.own 18]))] [w.h.tv,w.c.tv,.c (.d (.sl .thread w.t))] _ rfl (.vars 16 _ _ _ rfl rfl ?_ .nil) (.cons _ _ _ _ (.agg _ _ ?_) (.cons _ _ _ _ (.agg _ _ ?_) (.cons _ _ _ _ (.c _ _ (.frz _ _ rfl)) .nil))) rfl (zpn w.h w.c w.t hlt hs hw) ?_) ?_
 ·repeat (first|exact .nil|refine .cons _ _ _ _ (.same _) ?_|refine .cons _ _ _ _ (.frz _ _ rfl) ?_)
 ·repeat (first|exact .nil|refine .cons _ _ _ _ (.same _) ?_)
 ·repeat (first|exact .nil|refine .cons _ _ _ _ (.same _) ?_)
 ·rintro H r ⟨rfl,rfl⟩ _ _
  exact⟨rfl,rfl⟩
 unfold colW
 generalize (zbN w.h w.c w.t).1=g'
 generalize (zbN w.h w.c w.t).2=c'
 show ARet ..
 exact⟨[(16,16),(17,17),(18,18)],rnF {h:=g',c:=c',t:=w.t,log:=w.log},[.int 0],.cons _ _ _ _ .same .nil,.old 16 16 _ _ _ rfl rfl (.vars _ _ (by repeat (first|exact .nil|refine .cons _ _ _ _ (.d _) ?_|refine .cons _ _ _ _ (.own _ _ rfl) ?_))) (.old 17 17 _ _ _ rfl rfl .dead (.old 18 18 _ _ _ rfl rfl (.data_eq rfl) .nil)),rfl,rfl,rfl⟩
theorem zry (c:Col) (t:Thread) (l:List Thread) (ht:t.ok):Spec X 119 [(16,.data .thread l)] [c.tv,t.tv,.c (.own 16)] (fun H r=>H=[(16,.data .thread l)]/\r=(beginT c t l).tv):=by
 refine zGO X_ok Tryz.f119 fun hb hH=>⟨rfl,?_⟩
 show ACall ..
 refine za ((zku Hp.zero Col.zero t ⟨by decide,by decide,by decide,by decide,by decide,by decide⟩ (by decide) ht).args (.cons _ _ _ _ (.agg _ _ ?_) (.cons _ _ _ _ (.agg _ _ ?_) (.cons _ _ _ _ (.refl _) .nil)))) rfl ?_
 ·repeat (first|exact .nil|refine .cons _ _ _ ?_|refine .sl _ _ _ _ _ rfl ?_)
 ·repeat (first|exact .nil|refine .cons _ _ _ ?_|refine .sl _ _ _ _ _ rfl ?_)
 show ADCall ..
 refine .mk _ _ (zlf c.phase) rfl ?_
 show ABr (decide (c.phase=0)) _ _
 refine⟨fun h=>?_,fun h=>?_⟩
 ·show ACall ..
  refine za (zgH l 167 [] (·.live) (fun x _=>zjy x)) rfl ?_
  cases hf:l.findIdx? (·.live) with
  |none=>
   rw[zkz hf,if_pos (by simpa using h)]
   refine zNO (by decide) ?_
   show ARet ..
   exact⟨[(16,16)],[(16,.data .thread l)],[((zkg t 0 (zeo c.phase))).tv],.cons _ _ _ _ (.agg _ _ (zb rfl)) .nil,.old 16 16 _ _ _ rfl rfl (.data_eq rfl) .nil,rfl,rfl,rfl⟩
  |some i=>
   obtain⟨hi,_,_,e⟩:=zkT (c:=c) (t:=t) hf
   rw[e]
   show ABr (decide ((i:Int)>=0)) _ _
   refine⟨fun h'=>?_,fun h'=>absurd h' (by simp)⟩
   repeat (show AOb _ _;refine⟨(by first|exact hi|exact⟨Int.natCast_nonneg _,Int.ofNat_lt.2 hi⟩|exact⟨(by decide:(0:Int)<=0),(by decide:(0:Int)<4)⟩),?_⟩)
   show ARet ..
   exact⟨[(16,16)],[(16,.data .thread l)],[({zkg t (l.getD i default).epoch (l.getD i default).stage with r0:=(l.getD i default).r0}).tv],.cons _ _ _ _ (.agg _ _ (zb rfl)) .nil,.old 16 16 _ _ _ rfl rfl (.data_eq rfl) .nil,rfl,rfl,rfl⟩
 ·show ACall ..
  refine za (zgH l 167 [] (·.live) (fun x _=>zjy x)) rfl ?_
  cases hf:l.findIdx? (·.live) with
  |none=>
   rw[zkz hf,if_neg (by simpa using h)]
   refine zNO (by decide) ?_
   show ARet ..
   exact⟨[(16,16)],[(16,.data .thread l)],[((zkg t c.epoch (zeo c.phase))).tv],.cons _ _ _ _ (.agg _ _ (zb rfl)) .nil,.old 16 16 _ _ _ rfl rfl (.data_eq rfl) .nil,rfl,rfl,rfl⟩
  |some i=>
   obtain⟨hi,_,_,e⟩:=zkT (c:=c) (t:=t) hf
   rw[e]
   show ABr (decide ((i:Int)>=0)) _ _
   refine⟨fun h'=>?_,fun h'=>absurd h' (by simp)⟩
   repeat (show AOb _ _;refine⟨(by first|exact hi|exact⟨Int.natCast_nonneg _,Int.ofNat_lt.2 hi⟩|exact⟨(by decide:(0:Int)<=0),(by decide:(0:Int)<4)⟩),?_⟩)
   show ARet ..
   exact⟨[(16,16)],[(16,.data .thread l)],[({zkg t (l.getD i default).epoch (l.getD i default).stage with r0:=(l.getD i default).r0}).tv],.cons _ _ _ _ (.agg _ _ (zb rfl)) .nil,.old 16 16 _ _ _ rfl rfl (.data_eq rfl) .nil,rfl,rfl,rfl⟩
theorem zpH (w:Wd) (n:Int) (hF:w.Fit):Spec X 78 (rnH w) [.c (.ptr 16 0 0),.int n] (fun H r=>H=rnH (beginW w n)/\r = .int (beginWE w n)):=by
 refine zGO X_ok Tryz.f78 fun hb hH=>⟨rfl,?_⟩
 obtain⟨hs,hw,hl,hth,hfl,hlog⟩:=hF
 show ACall ..
 refine za (zre w n) rfl ?_
 cases hi:zfd w n with
 |false=>
  have e1:beginW w n=w:=by unfold beginW;rw[if_pos hi]
  have e2:beginWE w n=3:=by unfold beginWE;rw[if_pos hi]
  rw[e1,e2]
  refine zYE (by decide) ?_
  show ARet ..
  exact⟨[(16,16),(17,17),(18,18)],rnH (w),[.int (3)],.cons _ _ _ _ .same .nil,.old 16 16 _ _ _ rfl rfl (.vars _ _ (by repeat (first|exact .nil|refine .cons _ _ _ _ (.d _) ?_|refine .cons _ _ _ _ (.own _ _ rfl) ?_))) (.old 17 17 _ _ _ rfl rfl (.data_eq rfl) (.old 18 18 _ _ _ rfl rfl (.data_eq rfl) .nil)),rfl,rfl,rfl⟩
 |true=>
  have hr:0<=n/\n<(w.t.length:Int):=of_decide_eq_true hi
  have hlt:n.toNat<w.t.length:=by omega
  refine zNO (by decide) ?_
  show AOb ..
  refine⟨by exact hr,?_⟩
  show AOb ..
  refine⟨by exact hlt,?_⟩
  cases hlv:(thW w n).live with
  |true=>
   have e0:ze2 w n=true:=by unfold ze2;rw[hlv];rfl
   have e1:beginW w n=w:=by unfold beginW;rw[if_neg (by rw[hi];decide),if_pos e0]
   have e2:beginWE w n=4:=by unfold beginWE;rw[if_neg (by rw[hi];decide),if_pos e0]
   rw[e1,e2]
   show ABr (thW w n).live _ _
   rw[hlv]
   refine zYE (by decide) ?_
   show ABr (thW w n).live _ _
   rw[hlv]
   refine zYE (by decide) ?_
   show ARet ..
   exact⟨[(16,16),(17,17),(18,18)],rnH (w),[.int (4)],.cons _ _ _ _ .same .nil,.old 16 16 _ _ _ rfl rfl (.vars _ _ (by repeat (first|exact .nil|refine .cons _ _ _ _ (.d _) ?_|refine .cons _ _ _ _ (.own _ _ rfl) ?_))) (.old 17 17 _ _ _ rfl rfl (.data_eq rfl) (.old 18 18 _ _ _ rfl rfl (.data_eq rfl) .nil)),rfl,rfl,rfl⟩
  |false=>
   show ABr (thW w n).live _ _
   rw[hlv]
   refine zNO (by decide) ?_
   show AOb ..
   refine⟨by exact hr,?_⟩
   show AOb ..
   refine⟨by exact hlt,?_⟩
   show ABr (((thW w n).ops.length:Int)==0) _ _
   by_cases ho:(thW w n).ops.length=0
   ·have e0:ze2 w n=true:=by unfold ze2;rw[hlv,decide_eq_true ho];rfl
    have e1:beginW w n=w:=by unfold beginW;rw[if_neg (by rw[hi];decide),if_pos e0]
    have e2:beginWE w n=4:=by unfold beginWE;rw[if_neg (by rw[hi];decide),if_pos e0]
    rw[e1,e2,show(((thW w n).ops.length:Int)==0)=true by rw[ho];rfl]
    refine zYE (by decide) ?_
    show ARet ..
    exact⟨[(16,16),(17,17),(18,18)],rnH (w),[.int (4)],.cons _ _ _ _ .same .nil,.old 16 16 _ _ _ rfl rfl (.vars _ _ (by repeat (first|exact .nil|refine .cons _ _ _ _ (.d _) ?_|refine .cons _ _ _ _ (.own _ _ rfl) ?_))) (.old 17 17 _ _ _ rfl rfl (.data_eq rfl) (.old 18 18 _ _ _ rfl rfl (.data_eq rfl) .nil)),rfl,rfl,rfl⟩
   ·have e0:ze2 w n=false:=by unfold ze2;rw[hlv,decide_eq_false ho];rfl
    have e1:beginW w n={w with t:=w.t.set n.toNat (beginT w.c (thW w n) w.t)}:=by unfold beginW;rw[if_neg (by rw[hi];decide),if_neg (by rw[e0];decide)]
    have e2:beginWE w n=0:=by unfold beginWE;rw[if_neg (by rw[hi];decide),if_neg (by rw[e0];decide)]
    rw[e1,e2,show(((thW w n).ops.length:Int)==0)=false by rw[beq_eq_false_iff_ne];omega]
    refine zNO (by decide) ?_
    show AOb ..
    refine⟨by exact hr,?_⟩
    show AOb ..
    refine⟨by exact hlt,?_⟩
    show ADCall ..
    refine .any ((beginT w.c (thW w n) w.t).tv) [(17,.data .thread w.t)] (.hand [(17,16)] [(16,.data .thread w.t)] [w.c.tv,(thW w n).tv,.c (.own 16)] _ (.cons _ _ _ _ (.agg _ _ (zb rfl)) (.cons _ _ _ _ (.agg _ _ (zb rfl)) (.cons _ _ _ _ (.c _ _ (.own _ _ rfl)) .nil))) (.old 16 17 _ _ _ rfl rfl (.data_eq rfl) .nil) rfl (zry w.c (thW w n) w.t (hth _ (zb6 hi)).1) ?_) ?_
    ·rintro H r ⟨rfl,rfl⟩ _ _
     exact⟨rfl,.inl rfl,rfl,rfl⟩
    generalize beginT w.c (thW w n) w.t=u
    show AOb ..
    refine⟨by exact hr,?_⟩
    show AOb ..
    refine⟨by exact hlt,?_⟩
    show ARet ..
    exact⟨[(16,16),(17,17),(18,18)],rnH ({w with t:=w.t.set n.toNat u}),[.int (0)],.cons _ _ _ _ .same .nil,.old 16 16 _ _ _ rfl rfl (.vars _ _ (by repeat (first|exact .nil|refine .cons _ _ _ _ (.d _) ?_|refine .cons _ _ _ _ (.own _ _ rfl) ?_))) (.old 17 17 _ _ _ rfl rfl (.data_eq rfl) (.old 18 18 _ _ _ rfl rfl (.data_eq rfl) .nil)),rfl,rfl,rfl⟩
set_option maxRecDepth 8000
theorem zqA {g:Hp} {t:Thread} {r:Int} (h:zd0 g t r=0):0<=zfh g t r/\zfh g t r<=2000/\zfy g t r<=63:=by
 unfold zd0 at h
 unfold zfh zfy
 by_cases h1:0<=r/\r<=3
 ·rw[if_pos h1]at h ⊢
  by_cases h2:headE g (t.reg r)=0
  ·rw[if_pos h1,if_pos h2,if_pos h2]
   obtain⟨_,_,_,a1,a2⟩:=zaj h2
   obtain⟨hm,_,_⟩:=zU h2
   obtain⟨_,_,hwl,_,_,h64⟩:=zl (zA hm)
   have:=(zjV (zgt h2).1).1.2
   omega
  ·rw[if_neg h2]at h;cases h
 ·rw[if_neg h1]at h;cases h
set_option maxHeartbeats 4000000 in
set_option maxRecDepth 60000 in
theorem zb8 (g:Hp) (c:Col) (t:Thread) (hs:g.small) (hw:c.work.length<=zk) (ht:t.ok):Spec X 146 [] [g.tv,c.tv,t.tv] (Ret [(0,.vars (muV ⟨g,c,t,Res.zero,false⟩))] (.c (.ptr 0 0 0))):=by
 refine zGO X_ok Tryz.f146 fun hb hH=>⟨rfl,?_⟩
 obtain⟨h1,h2,h3,h4,h5,h6⟩:=hs
 obtain⟨t1,t2,t3,t4⟩:=ht
 show ADCall ..
 refine .mk _ _ (zd g.w h1) rfl ?_
 show ADCall ..
 refine .mk _ _ (zac g.pages h2) rfl ?_
 show ADCall ..
 refine .mk _ _ (zah g.cards h3) rfl ?_
 show ADCall ..
 refine .mk _ _ (zd c.work hw) rfl ?_
 show ADCall ..
 refine .mk _ _ (zck t.ops t1) rfl ?_
 show ∃n,_
 refine⟨4,?_⟩
 show ALoop ..
 refine .next ?_
 refine zYE (by decide) ?_
 show AOb ..
 refine⟨by decide,?_⟩
 show ADCall ..
 refine .mk _ _ (zd g.free.l0 h4) rfl ?_
 show AOb ..
 refine⟨by decide,?_⟩
 show ADCall ..
 refine .mk _ _ (zd t.cache.l0 t2) rfl ?_
 show AOb ..
 refine⟨by decide,?_⟩
 show AOb ..
 refine⟨by decide,?_⟩
 show ALoop ..
 refine .next ?_
 refine zYE (by decide) ?_
 show AOb ..
 refine⟨by decide,?_⟩
 show ADCall ..
 refine .mk _ _ (zd g.free.l1 h5) rfl ?_
 show AOb ..
 refine⟨by decide,?_⟩
 show ADCall ..
 refine .mk _ _ (zd t.cache.l1 t3) rfl ?_
 show AOb ..
 refine⟨by decide,?_⟩
 show AOb ..
 refine⟨by decide,?_⟩
 show ALoop ..
 refine .next ?_
 refine zYE (by decide) ?_
 show AOb ..
 refine⟨by decide,?_⟩
 show ADCall ..
 refine .mk _ _ (zd g.free.l2 h6) rfl ?_
 show AOb ..
 refine⟨by decide,?_⟩
 show ADCall ..
 refine .mk _ _ (zd t.cache.l2 t4) rfl ?_
 show AOb ..
 refine⟨by decide,?_⟩
 show AOb ..
 refine⟨by decide,?_⟩
 show ALoop ..
 refine .next ?_
 refine zNO (by decide) ?_
 show ARet ..
 exact⟨[(_,0)],[(0,.vars (muV ⟨g,c,t,Res.zero,false⟩))],[.c (.ptr 0 0 0)],.cons _ _ _ _ (.c _ _ (.ptr1 _ _ _ _)) .nil,.old 0 _ _ _ _ rfl rfl (.vars _ _ (zb rfl)) .nil,rfl,rfl,rfl⟩
theorem zb7 (g:Hp) (t:Thread) (hlm:(zn (zeL g [t.cache])).length<=zk):Spec X 147 [] [g.tv,t.tv] (Ret [] (.bo (zgE g t))):=by
 refine Spec.fz (zGO zmN Tryz.f147 fun hb hH=>⟨rfl,?_⟩)
 unfold zgE
 show ACall ..
 refine za ((zmX t).uz) rfl ?_
 have ec:(bif bif decide t.mayT then t.live else false then decide ((t.ops.length:Int)>0) else false)=(decide t.mayT&&(t.live&&decide (0<t.ops.length))):=by
  have e:decide ((t.ops.length:Int)>0)=decide (0<t.ops.length):=by rw[decide_eq_decide];omega
  rw[e]
  cases decide t.mayT<;>cases t.live<;>rfl
 show AIf ((bif bif decide t.mayT then t.live else false then decide ((t.ops.length:Int)>0) else false)=true/\True) _ _
 rw[ec]
 cases hb:(decide t.mayT&&(t.live&&decide (0<t.ops.length))) with
 |false=>
  show AIf ..
  refine⟨fun h=>absurd h.1 (by decide),fun _=>?_⟩
  show AOb ..
  refine⟨by exact ec.trans hb,?_⟩
  show ARet ..
  refine zt (x:=false) ?_ ⟨rfl,rfl⟩
  rw[←Bool.and_assoc,←Bool.and_assoc,Bool.and_assoc (decide _),hb]
  rfl
 |true=>
  show AIf ..
  refine⟨fun _=>?_,fun h=>absurd ⟨(by rfl),trivial⟩ h⟩
  show ACall ..
  refine za ((zeg g [t.cache] hlm (by unfold zk;simp)).uz) rfl ?_
  show ARet ..
  refine zt (x:=zx g [t.cache]) ?_ ⟨rfl,rfl⟩
  rw[←Bool.and_assoc,←Bool.and_assoc,Bool.and_assoc (decide _),hb]
  rfl
theorem zbg (m:Mu) (h:0<m.t.ops.length):Spec X 157 [] [.c (.d (.rp m.cells))] (Ret [] (.dagg (EK.enc .op m.op))):=by
 refine zGO X_ok Tryz.f157 fun hb hH=>⟨rfl,?_⟩
 show AOb ((0:Int)<=0/\(0:Int)<(m.t.ops.length:Int)) _
 refine⟨by omega,?_⟩
 show ARet ..
 exact zi rfl ⟨rfl,rfl⟩
theorem ze3 (a b:Int):Spec X 189 [] [.c (.d (.sl .int [a,b]))] (Ret [] (.int (za8 a b))):=by
 refine zGO X_ok Tryz.f189 fun hb hH=>⟨rfl,?_⟩
 show ∃n,_
 refine⟨4,?_⟩
 unfold za8
 show ALoop ..
 refine .next ?_
 show ABr ..
 refine⟨fun _=>?_,fun h=>absurd h (by show ¬decide ((0:Int)<2)=false;decide)⟩
 show AOb ..
 refine⟨by show(0:Int)<=0/\(0:Int)<2;decide,?_⟩
 show ABr (a != 0) _ _
 by_cases h1:a≠0
 ·rw[if_pos h1,show(a != 0)=true by simpa using h1]
  refine zYE (by decide) ?_
  show ARet ..
  exact zi rfl ⟨rfl,rfl⟩
 ·rw[if_neg h1,show(a != 0)=false by simpa using h1]
  refine zNO (by decide) ?_
  show ALoop ..
  refine .next ?_
  show ABr ..
  refine⟨fun _=>?_,fun h=>absurd h (by show ¬decide ((1:Int)<2)=false;decide)⟩
  show AOb ..
  refine⟨by show(0:Int)<=1/\(1:Int)<2;decide,?_⟩
  show ABr (b != 0) _ _
  by_cases h2:b≠0
  ·rw[show(b != 0)=true by simpa using h2]
   refine zYE (by decide) ?_
   show ARet ..
   exact zi rfl ⟨rfl,rfl⟩
  ·rw[show(b != 0)=false by simpa using h2]
   refine zNO (by decide) ?_
   show ALoop ..
   refine .next ?_
   show ABr ..
   refine⟨fun h=>absurd h (by show ¬decide ((2:Int)<2)=true;decide),fun _=>?_⟩
   show ARet ..
   refine zaZ (x:=0) (by omega) ⟨rfl,rfl⟩
theorem zcI (m:Mu) (r:Int):Spec X 190 [] [.c (.d (.rp m.cells)),.int r] (Ret [] (.int (zbd r))):=by
 refine zGO X_ok Tryz.f190 fun hb hH=>⟨rfl,?_⟩
 show ACall ..
 refine za (znJ m.t r) rfl ?_
 show ARet ..
 exact zi rfl ⟨rfl,rfl⟩
theorem zjF (m:Mu) (r a:Int) (ht:m.t.ok):Spec X 188 [(16,.vars (muV m))] [.c (.ptr 16 0 0),.int r,.int a] (fun H r'=>H=[(16,.vars (muV (zcw m r a)))]/\r' = .tup []):=by
 refine zGO X_ok Tryz.f188 fun hb hH=>⟨rfl,?_⟩
 unfold zcw zbd
 by_cases h:0<=r/\r<=3
 ·rw[if_pos h,if_pos rfl]
  show ACall ..
  refine za (zxo m.t r a ht h) rfl ?_
  refine zYE (by decide) ?_
  show ARet ..
  exact⟨[(16,16)],[(16,.vars (muV {m with t:=m.t.setReg r a}))],[],.nil,.old 16 16 _ _ _ rfl rfl (.vars _ _ (zb rfl)) .nil,rfl,rfl,rfl⟩
 ·rw[if_neg h,if_neg (by decide)]
  show ACall ..
  refine za (zxA m.t r a h) rfl ?_
  refine zNO (by decide) ?_
  show ARet ..
  exact⟨[(16,16)],[(16,.vars (muV m))],[],.nil,.old 16 16 _ _ _ rfl rfl (.vars _ _ (zb rfl)) .nil,rfl,rfl,rfl⟩
theorem zrY (m:Mu) (n:Int):Spec X 192 [] [.c (.d (.rp m.cells)),.int n] (Ret [] (zbV m n).tv):=by
 refine zGO X_ok Tryz.f192 fun hb hH=>⟨rfl,?_⟩
 show ADCall ..
 refine .mk _ _ (zsj m.c m.t) rfl ?_
 unfold zbV zwH
 cases hb:decide (m.t.epoch=m.c.epoch/\m.t.stage=3/\m.c.phase≠0) with
 |true=>
  rw[if_pos rfl]
  refine zYE (by decide) ?_
  show ARet ..
  exact zi rfl ⟨rfl,rfl⟩
 |false=>
  rw[if_neg (by decide)]
  refine zNO (by decide) ?_
  show ARet ..
  exact zi rfl ⟨rfl,rfl⟩
theorem zeO (m:Mu) (r f:Int) (hl:m.h.light):Spec X 193 [] [.c (.d (.rp m.cells)),.int r,.int f] (Ret [] (.tup [.int (zdG m r f),.int (zdO m r f),.int (zbj m r f)])):=by
 refine zGO X_ok Tryz.f193 fun hb hH=>⟨rfl,?_⟩
 show ADCall ..
 refine .mk _ _ (zkQ m.h m.t r hl) rfl ?_
 by_cases hE:zd0 m.h m.t r=0
 ·show ABr (zd0 m.h m.t r != 0) _ _
  rw[show(zd0 m.h m.t r != 0)=false by rw[hE];rfl]
  refine zNO (by decide) ?_
  show ABr (decide (f<0)) _ _
  by_cases h1:f<0
  ·obtain⟨e1,e2,e3⟩:=zlX hE (.inl h1)
   rw[decide_eq_true h1,e1,e2,e3]
   refine zYE (by decide) ?_
   refine zYE (by decide) ?_
   show ARet ..
   exact zi rfl ⟨rfl,rfl⟩
  ·rw[decide_eq_false h1]
   refine zNO (by decide) ?_
   show ABr (decide (f>=zfy m.h m.t r)) _ _
   by_cases h2:zfy m.h m.t r<=f
   ·obtain⟨e1,e2,e3⟩:=zlX hE (.inr h2)
    rw[decide_eq_true (show f>=zfy m.h m.t r from h2),e1,e2,e3]
    refine zYE (by decide) ?_
    show ARet ..
    exact zi rfl ⟨rfl,rfl⟩
   ·obtain⟨e1,e2,e3⟩:=ztK hE (fun q=>q.elim h1 h2)
    rw[decide_eq_false (show ¬f>=zfy m.h m.t r from h2),e1,e2,e3]
    refine zNO (by decide) ?_
    obtain⟨k1,k2,k3⟩:=zqA hE
    have w1:IntKind.i64.wrap (zfh m.h m.t r+1)=zfh m.h m.t r+1:=zB (by omega) (by omega)
    have w2:IntKind.i64.wrap (IntKind.i64.wrap (zfh m.h m.t r+1)+f)=zfh m.h m.t r+1+f:=by rw[w1];exact zB (by omega) (by omega)
    show ARet ..
    exact⟨[],[],[.int (zfh m.h m.t r+1+f),.int (zfh m.h m.t r),.int 0],.cons _ _ _ _ (.int_eq w2) (.cons _ _ _ _ .same (.cons _ _ _ _ .same .nil)),.nil,rfl,rfl,rfl⟩
 ·obtain⟨e1,e2,e3⟩:=ztz hE f
  show ABr (zd0 m.h m.t r != 0) _ _
  rw[e1,e2,e3,show(zd0 m.h m.t r != 0)=true by simpa using hE]
  refine zYE (by decide) ?_
  show ARet ..
  exact zi rfl ⟨rfl,rfl⟩
theorem ziv (m:Mu) (e v:Int) (h:0<m.t.ops.length):Spec X 201 [(16,.vars (muV m))] [.c (.ptr 16 0 0),.int e,.int v] (fun H r=>H=[(16,.vars (muV (zjb m e v)))]/\r = .tup []):=by
 refine zGO X_ok Tryz.f201 fun hb hH=>⟨rfl,?_⟩
 show ACall ..
 refine za (zbg m h) rfl ?_
 show ARet ..
 exact⟨[(16,16)],[(16,.vars (muV (zjb m e v)))],[],.nil,.old 16 16 _ _ _ rfl rfl (.vars _ _ (zb rfl)) .nil,rfl,rfl,rfl⟩
theorem zif (m:Mu) (h:0<m.t.ops.length):Spec X 203 [(16,.vars (muV m))] [.c (.ptr 16 0 0)] (fun H r=>H=[(16,.vars (muV (zmx m)))]/\r = .tup []):=by
 refine zGO X_ok Tryz.f203 fun hb hH=>⟨rfl,?_⟩
 show AOb ((0:Int)<=1/\(1:Int)<=(m.t.ops.length:Int)) _
 refine⟨by omega,?_⟩
 show ARet ..
 exact⟨[(16,16)],[(16,.vars (muV (zmx m)))],[],.nil,.old 16 16 _ _ _ rfl rfl (.vars _ _ (zb rfl)) .nil,rfl,rfl,rfl⟩
theorem zaH (m:Mu) (e v:Int) (h:0<m.t.ops.length):Spec X 156 [(16,.vars (muV m))] [.c (.ptr 16 0 0),.int e,.int v] (fun H r=>H=[(16,.vars (muV (endM m e v)))]/\r = .tup []):=by
 refine zGO X_ok Tryz.f156 fun hb hH=>⟨rfl,?_⟩
 show ACall ..
 refine .hand [(16,16)] [(16,.vars (muV m))] [.c (.ptr 16 0 0),.int e,.int v] _ (.cons _ _ _ _ (.c _ _ (.ptr _ _ _ _ rfl)) (.cons _ _ _ _ .same (.cons _ _ _ _ .same .nil))) (.old 16 16 _ _ _ rfl rfl (.vars _ _ (zb rfl)) .nil) rfl (ziv m e v h) ?_
 rintro H r ⟨rfl,rfl⟩ _ _
 refine⟨rfl,.inl rfl,?_⟩
 show ACall ..
 refine .hand [(16,16)] [(16,.vars (muV (zjb m e v)))] [.c (.ptr 16 0 0)] _ (.cons _ _ _ _ (.c _ _ (.ptr _ _ _ _ rfl)) .nil) (.old 16 16 _ _ _ rfl rfl (.vars _ _ (zb rfl)) .nil) rfl (zif (zjb m e v) h) ?_
 rintro H r ⟨rfl,rfl⟩ _ _
 refine⟨rfl,.inl rfl,?_⟩
 show ARet ..
 exact⟨[(16,16)],[(16,.vars (muV (endM m e v)))],[],.nil,.old 16 16 _ _ _ rfl rfl (.vars _ _ (zb rfl)) .nil,rfl,rfl,rfl⟩
theorem zi5 (m:Mu) (r a:Int):(zcw m r a).t.ops=m.t.ops:=by
 unfold zcw Thread.setReg
 split
 ·split
  ·rfl
  ·split
   ·rfl
   ·split<;>rfl
 ·rfl
theorem zhy {m:Mu} {r f:Int} (h:zbj m r f=0):zbo m.h.w=true/\16<=zdG m r f/\zdG m r f<16+m.h.w.length/\0<=zdO m r f/\zdO m r f<=2000/\headE m.h (m.t.reg r)=0/\0<=f/\f<(headH m.h (m.t.reg r)).n/\zdG m r f=m.t.reg r+1+f:=by
 obtain⟨h1,h2,h3,h4,h5⟩:=zv7 h
 obtain⟨k1,k2,k3⟩:=zqA h1
 unfold zd0 at h1
 by_cases hr:0<=r/\r<=3
 ·rw[if_pos hr]at h1
  by_cases hh:headE m.h (m.t.reg r)=0
  ·unfold zfh at h4 h5 k1 k2
   unfold zfy at h3
   rw[if_pos hr,if_pos hh]at h4 h5 k1 k2 h3
   obtain⟨hm,hr2,_⟩:=zU hh
   obtain⟨hmw,_⟩:=zl (zA hm)
   obtain⟨⟨a1,a2⟩,_⟩:=zfo (f:=f+1) hh (by omega) (by omega)
   have ha16:=(zaL (h:=m.h) hr2).1
   exact⟨hmw,by omega,by omega,by omega,by omega,hh,h2,h3,h5⟩
  ·rw[if_neg hh]at h1;cases h1
 ·rw[if_neg hr]at h1;cases h1
set_option maxRecDepth 60000 in
set_option maxHeartbeats 4000000 in
theorem zom (m:Mu) (hs:m.h.small) (ht:m.t.ok) (hco:m.t.cache.ok) (hlm:(zn (zeL m.h [m.t.cache])).length<=zk) (h:0<m.t.ops.length):Spec X 148 [(16,.vars (muV m))] [.c (.ptr 16 0 0)] (fun H r=>H=[(16,.vars (muV (createM m)))]/\r = .tup []):=by
 refine zGO X_ok Tryz.f148 fun hb hH=>⟨rfl,?_⟩
 unfold createM
 show ACall ..
 refine za (zbg m h) rfl ?_
 show ABr (decide (m.t.pc>0)) _ _
 by_cases h1:0<m.t.pc
 ·rw[if_pos h1,decide_eq_true (show m.t.pc>0 from h1)]
  refine zYE (by decide) ?_
  show ADCall ..
  refine .any (.tup []) [(16,.vars (muV (zcw m m.op.a m.t.x)))] (.hand [(16,16)] [(16,.vars (muV m))] [.c (.ptr 16 0 0),.int m.op.a,.int m.t.x] _ (.cons _ _ _ _ (.c _ _ (.ptr _ _ _ _ rfl)) (.cons _ _ _ _ .same (.cons _ _ _ _ .same .nil))) (.old 16 16 _ _ _ rfl rfl (.vars _ _ (zb rfl)) .nil) rfl (zjF m m.op.a m.t.x ht) ?_) ?_
  ·rintro H r ⟨rfl,rfl⟩ _ _
   exact⟨rfl,.inl rfl,rfl,rfl⟩
  show ACall ..
  refine .hand [(16,16)] [(16,.vars (muV (zcw m m.op.a m.t.x)))] [.c (.ptr 16 0 0),.int 0,.int 0] _ (.cons _ _ _ _ (.c _ _ (.ptr _ _ _ _ rfl)) (.cons _ _ _ _ .same (.cons _ _ _ _ .same .nil))) (.old 16 16 _ _ _ rfl rfl (.vars _ _ (zb rfl)) .nil) rfl (zaH (zcw m m.op.a m.t.x) 0 0 (by rw[zi5];exact h)) ?_
  rintro H r ⟨rfl,rfl⟩ _ _
  refine⟨rfl,.inl rfl,?_⟩
  show ARet ..
  exact⟨[(16,16)],[(16,.vars (muV (endM (zcw m m.op.a m.t.x) 0 0)))],[],.nil,.old 16 16 _ _ _ rfl rfl (.vars _ _ (zb rfl)) .nil,rfl,rfl,rfl⟩
 ·rw[if_neg h1,decide_eq_false (show ¬m.t.pc>0 from h1)]
  refine zNO (by decide) ?_
  show ACall ..
  refine za (ziN m.op.b) rfl ?_
  show ACall ..
  refine za (zcI m m.op.a) rfl ?_
  show ACall ..
  refine za (ze3 (zbd m.op.a) (zaM m.op.b)) rfl ?_
  show ABr (za8 (zbd m.op.a) (zaM m.op.b) != 0) _ _
  by_cases h2:za8 (zbd m.op.a) (zaM m.op.b)≠0
  ·rw[if_pos h2,show(za8 (zbd m.op.a) (zaM m.op.b) != 0)=true by simpa using h2]
   refine zYE (by decide) ?_
   show ACall ..
   refine .hand [(16,16)] [(16,.vars (muV m))] [.c (.ptr 16 0 0),.int (za8 (zbd m.op.a) (zaM m.op.b)),.int 0] _ (.cons _ _ _ _ (.c _ _ (.ptr _ _ _ _ rfl)) (.cons _ _ _ _ .same (.cons _ _ _ _ .same .nil))) (.old 16 16 _ _ _ rfl rfl (.vars _ _ (zb rfl)) .nil) rfl (zaH m (za8 (zbd m.op.a) (zaM m.op.b)) 0 h) ?_
   rintro H r ⟨rfl,rfl⟩ _ _
   refine⟨rfl,.inl rfl,?_⟩
   show ARet ..
   exact⟨[(16,16)],[(16,.vars (muV (endM m (za8 (zbd m.op.a) (zaM m.op.b)) 0)))],[],.nil,.old 16 16 _ _ _ rfl rfl (.vars _ _ (zb rfl)) .nil,rfl,rfl,rfl⟩
  ·rw[if_neg h2,show(za8 (zbd m.op.a) (zaM m.op.b) != 0)=false by simpa using h2]
   refine zNO (by decide) ?_
   show ADCall ..
   refine .mk _ _ (zrY m m.op.b) rfl ?_
   show ADCall ..
   refine .mk _ _ ((zuY m.h m.t.cache (zbV m m.op.b) hs hco hlm).uz) rfl ?_
   show ABr (zaw m.h m.t.cache (zbV m m.op.b) != 0) _ _
   by_cases h3:zaw m.h m.t.cache (zbV m m.op.b)≠0
   ·rw[if_pos h3,show(zaw m.h m.t.cache (zbV m m.op.b) != 0)=true by simpa using h3]
    refine zYE (by decide) ?_
    show ACall ..
    refine .hand [(16,16)] [(16,.vars (muV m))] [.c (.ptr 16 0 0),.int (zaw m.h m.t.cache (zbV m m.op.b)),.int 0] _ (.cons _ _ _ _ (.c _ _ (.ptr _ _ _ _ rfl)) (.cons _ _ _ _ .same (.cons _ _ _ _ .same .nil))) (.old 16 16 _ _ _ rfl rfl (.vars _ _ (zb rfl)) .nil) rfl (zaH m (zaw m.h m.t.cache (zbV m m.op.b)) 0 h) ?_
    rintro H r ⟨rfl,rfl⟩ _ _
    refine⟨rfl,.inl rfl,?_⟩
    show ARet ..
    exact⟨[(16,16)],[(16,.vars (muV (endM m (zaw m.h m.t.cache (zbV m m.op.b)) 0)))],[],.nil,.old 16 16 _ _ _ rfl rfl (.vars _ _ (zb rfl)) .nil,rfl,rfl,rfl⟩
   ·rw[if_neg h3,show(zaw m.h m.t.cache (zbV m m.op.b) != 0)=false by simpa using h3]
    refine zNO (by decide) ?_
    show ARet ..
    exact⟨[(16,16)],[(16,.vars (muV ({m with h:=ze5 m.h m.t.cache (zbV m m.op.b),t:={m.t with cache:=zkv m.h m.t.cache (zbV m m.op.b),x:=zfD m.h m.t.cache (zbV m m.op.b),pc:=1}})))],[],.nil,.old 16 16 _ _ _ rfl rfl (.vars _ _ (zb rfl)) .nil,rfl,rfl,rfl⟩
set_option maxRecDepth 60000 in
theorem zsr (m:Mu) (hl:m.h.light) (ht:m.t.ok) (h:0<m.t.ops.length):Spec X 149 [(16,.vars (muV m))] [.c (.ptr 16 0 0)] (fun H r=>H=[(16,.vars (muV (loadM m)))]/\r = .tup []):=by
 refine zGO X_ok Tryz.f149 fun hb hH=>⟨rfl,?_⟩
 unfold loadM
 show ACall ..
 refine za (zbg m h) rfl ?_
 show ACall ..
 refine za (zcI m m.op.a) rfl ?_
 show ABr (zbd m.op.a != 0) _ _
 by_cases h1:zbd m.op.a≠0
 ·rw[if_pos h1,show(zbd m.op.a != 0)=true by simpa using h1]
  refine zYE (by decide) ?_
  show ACall ..
  refine .hand [(16,16)] [(16,.vars (muV m))] [.c (.ptr 16 0 0),.int (zbd m.op.a),.int 0] _ (.cons _ _ _ _ (.c _ _ (.ptr _ _ _ _ rfl)) (.cons _ _ _ _ .same (.cons _ _ _ _ .same .nil))) (.old 16 16 _ _ _ rfl rfl (.vars _ _ (zb rfl)) .nil) rfl (zaH m (zbd m.op.a) 0 h) ?_
  rintro H r ⟨rfl,rfl⟩ _ _
  refine⟨rfl,.inl rfl,?_⟩
  show ARet ..
  exact⟨[(16,16)],[(16,.vars (muV (endM m (zbd m.op.a) 0)))],[],.nil,.old 16 16 _ _ _ rfl rfl (.vars _ _ (zb rfl)) .nil,rfl,rfl,rfl⟩
 ·rw[if_neg h1,show(zbd m.op.a != 0)=false by simpa using h1]
  refine zNO (by decide) ?_
  show ACall ..
  refine za (zeO m m.op.b m.op.c hl) rfl ?_
  show ABr (zbj m m.op.b m.op.c != 0) _ _
  by_cases h2:zbj m m.op.b m.op.c≠0
  ·rw[if_pos h2,show(zbj m m.op.b m.op.c != 0)=true by simpa using h2]
   refine zYE (by decide) ?_
   show ACall ..
   refine .hand [(16,16)] [(16,.vars (muV m))] [.c (.ptr 16 0 0),.int (zbj m m.op.b m.op.c),.int 0] _ (.cons _ _ _ _ (.c _ _ (.ptr _ _ _ _ rfl)) (.cons _ _ _ _ .same (.cons _ _ _ _ .same .nil))) (.old 16 16 _ _ _ rfl rfl (.vars _ _ (zb rfl)) .nil) rfl (zaH m (zbj m m.op.b m.op.c) 0 h) ?_
   rintro H r ⟨rfl,rfl⟩ _ _
   refine⟨rfl,.inl rfl,?_⟩
   show ARet ..
   exact⟨[(16,16)],[(16,.vars (muV (endM m (zbj m m.op.b m.op.c) 0)))],[],.nil,.old 16 16 _ _ _ rfl rfl (.vars _ _ (zb rfl)) .nil,rfl,rfl,rfl⟩
  ·rw[if_neg h2,show(zbj m m.op.b m.op.c != 0)=false by simpa using h2]
   refine zNO (by decide) ?_
   obtain⟨w1,w2,w3,_⟩:=zhy (Classical.not_not.1 h2)
   show ACall ..
   refine za (zhp m.h.w (zdG m m.op.b m.op.c) w1 ⟨w2,w3⟩) rfl ?_
   show ACall ..
   refine .hand [(16,16)] [(16,.vars (muV m))] [.c (.ptr 16 0 0),.int m.op.a,.int (zeY m)] _ (.cons _ _ _ _ (.c _ _ (.ptr _ _ _ _ rfl)) (.cons _ _ _ _ .same (.cons _ _ _ _ .same .nil))) (.old 16 16 _ _ _ rfl rfl (.vars _ _ (zb rfl)) .nil) rfl (zjF m m.op.a (zeY m) ht) ?_
   rintro H r ⟨rfl,rfl⟩ _ _
   refine⟨rfl,.inl rfl,?_⟩
   show ABr (zeY m != 0) _ _
   by_cases h3:zeY m≠0
   ·rw[if_pos h3,show(zeY m != 0)=true by simpa using h3]
    refine zYE (by decide) ?_
    show ACall ..
    refine .hand [(16,16)] [(16,.vars (muV (zcw m m.op.a (zeY m))))] [.c (.ptr 16 0 0),.int 0,.int 1] _ (.cons _ _ _ _ (.c _ _ (.ptr _ _ _ _ rfl)) (.cons _ _ _ _ .same (.cons _ _ _ _ .same .nil))) (.old 16 16 _ _ _ rfl rfl (.vars _ _ (zb rfl)) .nil) rfl (zaH (zcw m m.op.a (zeY m)) 0 1 (by rw[zi5];exact h)) ?_
    rintro H r ⟨rfl,rfl⟩ _ _
    refine⟨rfl,.inl rfl,?_⟩
    show ARet ..
    exact⟨[(16,16)],[(16,.vars (muV (endM (zcw m m.op.a (zeY m)) 0 1)))],[],.nil,.old 16 16 _ _ _ rfl rfl (.vars _ _ (zb rfl)) .nil,rfl,rfl,rfl⟩
   ·rw[if_neg h3,show(zeY m != 0)=false by simpa using h3]
    refine zNO (by decide) ?_
    show ACall ..
    refine .hand [(16,16)] [(16,.vars (muV (zcw m m.op.a (zeY m))))] [.c (.ptr 16 0 0),.int 0,.int 0] _ (.cons _ _ _ _ (.c _ _ (.ptr _ _ _ _ rfl)) (.cons _ _ _ _ .same (.cons _ _ _ _ .same .nil))) (.old 16 16 _ _ _ rfl rfl (.vars _ _ (zb rfl)) .nil) rfl (zaH (zcw m m.op.a (zeY m)) 0 0 (by rw[zi5];exact h)) ?_
    rintro H r ⟨rfl,rfl⟩ _ _
    refine⟨rfl,.inl rfl,?_⟩
    show ARet ..
    exact⟨[(16,16)],[(16,.vars (muV (endM (zcw m m.op.a (zeY m)) 0 0)))],[],.nil,.old 16 16 _ _ _ rfl rfl (.vars _ _ (zb rfl)) .nil,rfl,rfl,rfl⟩
set_option maxRecDepth 60000
theorem zkS {a b:Int} (h:¬za8 a b≠0):a=0/\b=0:=by
 unfold za8 at h
 split at h
 ·rename_i h1;exact absurd h1 h
 ·rename_i h1;exact⟨Classical.not_not.1 h1,Classical.not_not.1 h⟩
theorem zpx (m:Mu) (hl:m.h.light) (h:0<m.t.ops.length):Spec X 195 [(16,.vars (muV m))] [.c (.ptr 16 0 0)] (fun H r=>H=[(16,.vars (muV (zg8 m)))]/\r = .tup []):=by
 refine zGO X_ok Tryz.f195 fun hb hH=>⟨rfl,?_⟩
 unfold zg8
 show ACall ..
 refine za (zbg m h) rfl ?_
 show ACall ..
 refine za (zeO m m.op.a m.op.b hl) rfl ?_
 show ACall ..
 refine za (zcI m m.op.c) rfl ?_
 show ACall ..
 refine za (ze3 (zbj m m.op.a m.op.b) (zbd m.op.c)) rfl ?_
 show ABr (za8 (zbj m m.op.a m.op.b) (zbd m.op.c) != 0) _ _
 by_cases h1:za8 (zbj m m.op.a m.op.b) (zbd m.op.c)≠0
 ·rw[if_pos h1,show(za8 (zbj m m.op.a m.op.b) (zbd m.op.c) != 0)=true by simpa using h1]
  refine zYE (by decide) ?_
  show ACall ..
  refine .hand [(16,16)] [(16,.vars (muV m))] [.c (.ptr 16 0 0),.int (za8 (zbj m m.op.a m.op.b) (zbd m.op.c)),.int 0] _ (.cons _ _ _ _ (.c _ _ (.ptr _ _ _ _ rfl)) (.cons _ _ _ _ .same (.cons _ _ _ _ .same .nil))) (.old 16 16 _ _ _ rfl rfl (.vars _ _ (zb rfl)) .nil) rfl (zaH m (za8 (zbj m m.op.a m.op.b) (zbd m.op.c)) 0 h) ?_
  rintro H r ⟨rfl,rfl⟩ _ _
  refine⟨rfl,.inl rfl,?_⟩
  show ARet ..
  exact⟨[(16,16)],[(16,.vars (muV (endM m (za8 (zbj m m.op.a m.op.b) (zbd m.op.c)) 0)))],[],.nil,.old 16 16 _ _ _ rfl rfl (.vars _ _ (zb rfl)) .nil,rfl,rfl,rfl⟩
 ·rw[if_neg h1,show(za8 (zbj m m.op.a m.op.b) (zbd m.op.c) != 0)=false by simpa using h1]
  refine zNO (by decide) ?_
  obtain⟨w1,w2,w3,_⟩:=zhy (zkS h1).1
  show ACall ..
  refine za (zhp m.h.w (zdG m m.op.a m.op.b) w1 ⟨w2,w3⟩) rfl ?_
  show ADCall ..
  refine .mk _ _ (znJ {m.t with x:=zf m.h (zdG m m.op.a m.op.b)} m.op.c) rfl ?_
  show ARet ..
  exact⟨[(16,16)],[(16,.vars (muV ({m with t:={m.t with x:=zf m.h (zdG m m.op.a m.op.b),y:=zxZ m.t m.op.c,pc:=1}})))],[],.nil,.old 16 16 _ _ _ rfl rfl (.vars _ _ (zb rfl)) .nil,rfl,rfl,rfl⟩
theorem zkA (m:Mu) (a:Int) (hl:m.h.light) (hs:m.h.small) (hw:m.c.work.length<zk) (hp:0<=m.t.pc/\m.t.pc<=4):Spec X 237 [(16,.vars (muV m))] [.c (.ptr 16 0 0),.int a] (fun H r=>H=[(16,.vars (muV (shadeM m a)))]/\r = .tup []):=by
 refine zGO X_ok Tryz.f237 fun hb hH=>⟨rfl,?_⟩
 unfold shadeM zga
 have hwr:IntKind.i64.wrap (m.t.pc+1)=m.t.pc+1:=zB (by omega) (by omega)
 show ADCall ..
 refine .mk _ _ (zsS m.c m.t) rfl ?_
 cases hb:decide (m.t.epoch=m.c.epoch/\1<=m.c.phase/\m.c.phase<=5) with
 |true=>
  rw[if_pos rfl,if_pos rfl]
  refine zYE (by decide) ?_
  show ADCall ..
  refine .mk _ _ (zcx m.h m.c a hl hs hw) rfl ?_
  show ARet ..
  rw[hwr]
  exact⟨[(16,16)],[(16,.vars (muV {m with h:=zH m.h m.c a,c:=zG m.h m.c a,t:={m.t with pc:=m.t.pc+1}}))],[],.nil,.old 16 16 _ _ _ rfl rfl (.vars _ _ (zb rfl)) .nil,rfl,rfl,rfl⟩
 |false=>
  rw[if_neg (by decide),if_neg (by decide)]
  refine zNO (by decide) ?_
  show ARet ..
  rw[hwr]
  exact⟨[(16,16)],[(16,.vars (muV {m with t:={m.t with pc:=m.t.pc+1}}))],[],.nil,.old 16 16 _ _ _ rfl rfl (.vars _ _ (zb rfl)) .nil,rfl,rfl,rfl⟩
theorem zuV (m:Mu) (hl:m.h.light) (hs:m.h.small) (hw:m.c.work.length<zk) (hp:0<=m.t.pc/\m.t.pc<=4):Spec X 196 [(16,.vars (muV m))] [.c (.ptr 16 0 0)] (fun H r=>H=[(16,.vars (muV (shadeM m m.t.x)))]/\r = .tup []):=by
 refine zGO X_ok Tryz.f196 fun hb hH=>⟨rfl,?_⟩
 show ACall ..
 refine .hand [(16,16)] [(16,.vars (muV m))] [.c (.ptr 16 0 0),.int m.t.x] _ (.cons _ _ _ _ (.c _ _ (.ptr _ _ _ _ rfl)) (.cons _ _ _ _ .same .nil)) (.old 16 16 _ _ _ rfl rfl (.vars _ _ (zb rfl)) .nil) rfl (zkA m m.t.x hl hs hw hp) ?_
 rintro H r ⟨rfl,rfl⟩ _ _
 refine⟨rfl,.inl rfl,?_⟩
 show ARet ..
 exact⟨[(16,16)],[(16,.vars (muV (shadeM m m.t.x)))],[],.nil,.old 16 16 _ _ _ rfl rfl (.vars _ _ (zb rfl)) .nil,rfl,rfl,rfl⟩
theorem zpu (m:Mu) (hl:m.h.light) (hs:m.h.small) (hw:m.c.work.length<zk) (hp:0<=m.t.pc/\m.t.pc<=4):Spec X 197 [(16,.vars (muV m))] [.c (.ptr 16 0 0)] (fun H r=>H=[(16,.vars (muV (shadeM m m.t.y)))]/\r = .tup []):=by
 refine zGO X_ok Tryz.f197 fun hb hH=>⟨rfl,?_⟩
 show ACall ..
 refine .hand [(16,16)] [(16,.vars (muV m))] [.c (.ptr 16 0 0),.int m.t.y] _ (.cons _ _ _ _ (.c _ _ (.ptr _ _ _ _ rfl)) (.cons _ _ _ _ .same .nil)) (.old 16 16 _ _ _ rfl rfl (.vars _ _ (zb rfl)) .nil) rfl (zkA m m.t.y hl hs hw hp) ?_
 rintro H r ⟨rfl,rfl⟩ _ _
 refine⟨rfl,.inl rfl,?_⟩
 show ARet ..
 exact⟨[(16,16)],[(16,.vars (muV (shadeM m m.t.y)))],[],.nil,.old 16 16 _ _ _ rfl rfl (.vars _ _ (zb rfl)) .nil,rfl,rfl,rfl⟩
theorem zqZ (m:Mu) (hl:m.h.light) (h:0<m.t.ops.length):Spec X 198 [(16,.vars (muV m))] [.c (.ptr 16 0 0)] (fun H r=>H=[(16,.vars (muV (zgR m)))]/\r = .tup []):=by
 refine zGO X_ok Tryz.f198 fun hb hH=>⟨rfl,?_⟩
 unfold zgR
 show ACall ..
 refine za (zbg m h) rfl ?_
 show ACall ..
 refine za (zbg m h) rfl ?_
 show ACall ..
 refine za (zeO m m.op.a m.op.b hl) rfl ?_
 show ABr (zbj m m.op.a m.op.b != 0) _ _
 by_cases h1:zbj m m.op.a m.op.b≠0
 ·rw[if_pos h1,show(zbj m m.op.a m.op.b != 0)=true by simpa using h1]
  refine zYE (by decide) ?_
  show ACall ..
  refine .hand [(16,16)] [(16,.vars (muV m))] [.c (.ptr 16 0 0),.int 5,.int 0] _ (.cons _ _ _ _ (.c _ _ (.ptr _ _ _ _ rfl)) (.cons _ _ _ _ .same (.cons _ _ _ _ .same .nil))) (.old 16 16 _ _ _ rfl rfl (.vars _ _ (zb rfl)) .nil) rfl (zaH m 5 0 h) ?_
  rintro H r ⟨rfl,rfl⟩ _ _
  refine⟨rfl,.inl rfl,?_⟩
  show ARet ..
  exact⟨[(16,16)],[(16,.vars (muV (endM m 5 0)))],[],.nil,.old 16 16 _ _ _ rfl rfl (.vars _ _ (zb rfl)) .nil,rfl,rfl,rfl⟩
 ·rw[if_neg h1,show(zbj m m.op.a m.op.b != 0)=false by simpa using h1]
  refine zNO (by decide) ?_
  obtain⟨w1,w2,w3,_⟩:=zhy (Classical.not_not.1 h1)
  show ADCall ..
  refine .mk _ _ (zfm m.h.w (zdG m m.op.a m.op.b) m.t.y w1 ⟨w2,w3⟩) rfl ?_
  show ACall ..
  refine .hand [(16,16)] [(16,.vars (muV ({m with h:={m.h with w:=m.h.w.set (zdG m m.op.a m.op.b-16).toNat m.t.y}})))] [.c (.ptr 16 0 0),.int 0,.int 0] _ (.cons _ _ _ _ (.c _ _ (.ptr _ _ _ _ rfl)) (.cons _ _ _ _ .same (.cons _ _ _ _ .same .nil))) (.old 16 16 _ _ _ rfl rfl (.vars _ _ (zb rfl)) .nil) rfl (ziv ({m with h:={m.h with w:=m.h.w.set (zdG m m.op.a m.op.b-16).toNat m.t.y}}) 0 0 h) ?_
  rintro H r ⟨rfl,rfl⟩ _ _
  refine⟨rfl,.inl rfl,?_⟩
  show ARet ..
  exact⟨[(16,16)],[(16,.vars (muV ({zjb m 0 0 with h:={m.h with w:=m.h.w.set (zdG m m.op.a m.op.b-16).toNat m.t.y},t:={m.t with pc:=4}})))],[],.nil,.old 16 16 _ _ _ rfl rfl (.vars _ _ (zb rfl)) .nil,rfl,rfl,rfl⟩
theorem zqj (m:Mu) (hl:m.h.light) (h:0<m.t.ops.length):Spec X 199 [(16,.vars (muV m))] [.c (.ptr 16 0 0)] (fun H r=>H=[(16,.vars (muV (zgV m)))]/\r = .tup []):=by
 refine zGO X_ok Tryz.f199 fun hb hH=>⟨rfl,?_⟩
 unfold zgV
 show ACall ..
 refine za (zbg m h) rfl ?_
 show ACall ..
 refine za (zbg m h) rfl ?_
 show ACall ..
 refine za (zeO m m.op.a m.op.b hl) rfl ?_
 show ABr (zbj m m.op.a m.op.b==0) _ _
 by_cases h1:zbj m m.op.a m.op.b=0
 ·rw[if_pos h1,show(zbj m m.op.a m.op.b==0)=true by simpa using h1]
  refine zYE (by decide) ?_
  obtain⟨w1,w2,w3,w4,w5,_⟩:=zhy h1
  show ACall ..
  refine za (zip m.h (zdO m m.op.a m.op.b) hl (by omega)) rfl ?_
  show ACall ..
  refine .hand [(16,16)] [(16,.vars (muV ({m with h:=zaY m.h (zdO m m.op.a m.op.b)})))] [.c (.ptr 16 0 0)] _ (.cons _ _ _ _ (.c _ _ (.ptr _ _ _ _ rfl)) .nil) (.old 16 16 _ _ _ rfl rfl (.vars _ _ (zb rfl)) .nil) rfl (zif ({m with h:=zaY m.h (zdO m m.op.a m.op.b)}) h) ?_
  rintro H r ⟨rfl,rfl⟩ _ _
  refine⟨rfl,.inl rfl,?_⟩
  show ARet ..
  exact⟨[(16,16)],[(16,.vars (muV (zmx ({m with h:=zaY m.h (zdO m m.op.a m.op.b)}))))],[],.nil,.old 16 16 _ _ _ rfl rfl (.vars _ _ (zb rfl)) .nil,rfl,rfl,rfl⟩
 ·rw[if_neg h1,show(zbj m m.op.a m.op.b==0)=false by simpa using h1]
  refine zNO (by decide) ?_
  show ACall ..
  refine .hand [(16,16)] [(16,.vars (muV m))] [.c (.ptr 16 0 0)] _ (.cons _ _ _ _ (.c _ _ (.ptr _ _ _ _ rfl)) .nil) (.old 16 16 _ _ _ rfl rfl (.vars _ _ (zb rfl)) .nil) rfl (zif m h) ?_
  rintro H r ⟨rfl,rfl⟩ _ _
  refine⟨rfl,.inl rfl,?_⟩
  show ARet ..
  exact⟨[(16,16)],[(16,.vars (muV (zmx m)))],[],.nil,.old 16 16 _ _ _ rfl rfl (.vars _ _ (zb rfl)) .nil,rfl,rfl,rfl⟩
def pcM (m:Mu) (k:Int):Mu:={m with t:={m.t with pc:=k}}
theorem zmt {m:Mu} {k:Int} (h:m.t.pc=k):pcM m k=m:=by
 subst h
 rfl
theorem zop (m:Mu) (hl:m.h.light) (h:0<m.t.ops.length):Spec X 150 [(16,.vars (muV (pcM m 0)))] [.c (.ptr 16 0 0)] (fun H r=>H=[(16,.vars (muV (storeM (pcM m 0))))]/\r = .tup []):=by
 refine zGO X_ok Tryz.f150 fun hb hH=>⟨rfl,?_⟩
 show AOb ((0:Int)<=0/\(0:Int)<5) _
 refine⟨by decide,?_⟩
 show ACall ..
 refine .hand [(16,16)] [(16,.vars (muV (pcM m 0)))] [.c (.ptr 16 0 0)] _ (.cons _ _ _ _ (.c _ _ (.ptr _ _ _ _ rfl)) .nil) (.old 16 16 _ _ _ rfl rfl (.vars _ _ (zb rfl)) .nil) rfl (zpx (pcM m 0) hl h) ?_
 rintro H r ⟨rfl,rfl⟩ _ _
 refine⟨rfl,.inl rfl,?_⟩
 show ARet ..
 exact⟨[(16,16)],[(16,.vars (muV (storeM (pcM m 0))))],[],.nil,.old 16 16 _ _ _ rfl rfl (.vars _ _ (zb rfl)) .nil,rfl,rfl,rfl⟩
theorem zoc (m:Mu) (hl:m.h.light) (hs:m.h.small) (hw:m.c.work.length<zk) (h:0<m.t.ops.length):Spec X 150 [(16,.vars (muV (pcM m 1)))] [.c (.ptr 16 0 0)] (fun H r=>H=[(16,.vars (muV (storeM (pcM m 1))))]/\r = .tup []):=by
 refine zGO X_ok Tryz.f150 fun hb hH=>⟨rfl,?_⟩
 show AOb ((0:Int)<=1/\(1:Int)<5) _
 refine⟨by decide,?_⟩
 show ACall ..
 refine .hand [(16,16)] [(16,.vars (muV (pcM m 1)))] [.c (.ptr 16 0 0)] _ (.cons _ _ _ _ (.c _ _ (.ptr _ _ _ _ rfl)) .nil) (.old 16 16 _ _ _ rfl rfl (.vars _ _ (zb rfl)) .nil) rfl (zuV (pcM m 1) hl hs hw (by show(0:Int)<=1/\(1:Int)<=4;decide)) ?_
 rintro H r ⟨rfl,rfl⟩ _ _
 refine⟨rfl,.inl rfl,?_⟩
 show ARet ..
 exact⟨[(16,16)],[(16,.vars (muV (storeM (pcM m 1))))],[],.nil,.old 16 16 _ _ _ rfl rfl (.vars _ _ (zb rfl)) .nil,rfl,rfl,rfl⟩
theorem zoG (m:Mu) (hl:m.h.light) (hs:m.h.small) (hw:m.c.work.length<zk) (h:0<m.t.ops.length):Spec X 150 [(16,.vars (muV (pcM m 2)))] [.c (.ptr 16 0 0)] (fun H r=>H=[(16,.vars (muV (storeM (pcM m 2))))]/\r = .tup []):=by
 refine zGO X_ok Tryz.f150 fun hb hH=>⟨rfl,?_⟩
 show AOb ((0:Int)<=2/\(2:Int)<5) _
 refine⟨by decide,?_⟩
 show ACall ..
 refine .hand [(16,16)] [(16,.vars (muV (pcM m 2)))] [.c (.ptr 16 0 0)] _ (.cons _ _ _ _ (.c _ _ (.ptr _ _ _ _ rfl)) .nil) (.old 16 16 _ _ _ rfl rfl (.vars _ _ (zb rfl)) .nil) rfl (zpu (pcM m 2) hl hs hw (by show(0:Int)<=2/\(2:Int)<=4;decide)) ?_
 rintro H r ⟨rfl,rfl⟩ _ _
 refine⟨rfl,.inl rfl,?_⟩
 show ARet ..
 exact⟨[(16,16)],[(16,.vars (muV (storeM (pcM m 2))))],[],.nil,.old 16 16 _ _ _ rfl rfl (.vars _ _ (zb rfl)) .nil,rfl,rfl,rfl⟩
theorem zpb (m:Mu) (hl:m.h.light) (h:0<m.t.ops.length):Spec X 150 [(16,.vars (muV (pcM m 3)))] [.c (.ptr 16 0 0)] (fun H r=>H=[(16,.vars (muV (storeM (pcM m 3))))]/\r = .tup []):=by
 refine zGO X_ok Tryz.f150 fun hb hH=>⟨rfl,?_⟩
 show AOb ((0:Int)<=3/\(3:Int)<5) _
 refine⟨by decide,?_⟩
 show ACall ..
 refine .hand [(16,16)] [(16,.vars (muV (pcM m 3)))] [.c (.ptr 16 0 0)] _ (.cons _ _ _ _ (.c _ _ (.ptr _ _ _ _ rfl)) .nil) (.old 16 16 _ _ _ rfl rfl (.vars _ _ (zb rfl)) .nil) rfl (zqZ (pcM m 3) hl h) ?_
 rintro H r ⟨rfl,rfl⟩ _ _
 refine⟨rfl,.inl rfl,?_⟩
 show ARet ..
 exact⟨[(16,16)],[(16,.vars (muV (storeM (pcM m 3))))],[],.nil,.old 16 16 _ _ _ rfl rfl (.vars _ _ (zb rfl)) .nil,rfl,rfl,rfl⟩
theorem zoj (m:Mu) (hl:m.h.light) (h:0<m.t.ops.length):Spec X 150 [(16,.vars (muV (pcM m 4)))] [.c (.ptr 16 0 0)] (fun H r=>H=[(16,.vars (muV (storeM (pcM m 4))))]/\r = .tup []):=by
 refine zGO X_ok Tryz.f150 fun hb hH=>⟨rfl,?_⟩
 show AOb ((0:Int)<=4/\(4:Int)<5) _
 refine⟨by decide,?_⟩
 show ACall ..
 refine .hand [(16,16)] [(16,.vars (muV (pcM m 4)))] [.c (.ptr 16 0 0)] _ (.cons _ _ _ _ (.c _ _ (.ptr _ _ _ _ rfl)) .nil) (.old 16 16 _ _ _ rfl rfl (.vars _ _ (zb rfl)) .nil) rfl (zqj (pcM m 4) hl h) ?_
 rintro H r ⟨rfl,rfl⟩ _ _
 refine⟨rfl,.inl rfl,?_⟩
 show ARet ..
 exact⟨[(16,16)],[(16,.vars (muV (storeM (pcM m 4))))],[],.nil,.old 16 16 _ _ _ rfl rfl (.vars _ _ (zb rfl)) .nil,rfl,rfl,rfl⟩
theorem zrn (m:Mu) (hl:m.h.light) (hs:m.h.small) (hw:m.c.work.length<zk) (h:0<m.t.ops.length) (hp:0<=m.t.pc/\m.t.pc<=4):Spec X 150 [(16,.vars (muV m))] [.c (.ptr 16 0 0)] (fun H r=>H=[(16,.vars (muV (storeM m)))]/\r = .tup []):=by
 have e:m.t.pc=0\/m.t.pc=1\/m.t.pc=2\/m.t.pc=3\/m.t.pc=4:=by omega
 rcases e with e|e|e|e|e
 ·have:=zop m hl h;rw[zmt e]at this;exact this
 ·have:=zoc m hl hs hw h;rw[zmt e]at this;exact this
 ·have:=zoG m hl hs hw h;rw[zmt e]at this;exact this
 ·have:=zpb m hl h;rw[zmt e]at this;exact this
 ·have:=zoj m hl h;rw[zmt e]at this;exact this
theorem zsk (m:Mu) (ht:m.t.ok) (h:0<m.t.ops.length):Spec X 151 [(16,.vars (muV m))] [.c (.ptr 16 0 0)] (fun H r=>H=[(16,.vars (muV (dropM m)))]/\r = .tup []):=by
 refine zGO X_ok Tryz.f151 fun hb hH=>⟨rfl,?_⟩
 unfold dropM
 show ACall ..
 refine za (zbg m h) rfl ?_
 show ACall ..
 refine za (zcI m m.op.a) rfl ?_
 show ACall ..
 refine za (zbg m h) rfl ?_
 show ACall ..
 refine .hand [(16,16)] [(16,.vars (muV m))] [.c (.ptr 16 0 0),.int m.op.a,.int 0] _ (.cons _ _ _ _ (.c _ _ (.ptr _ _ _ _ rfl)) (.cons _ _ _ _ .same (.cons _ _ _ _ .same .nil))) (.old 16 16 _ _ _ rfl rfl (.vars _ _ (zb rfl)) .nil) rfl (zjF m m.op.a 0 ht) ?_
 rintro H r ⟨rfl,rfl⟩ _ _
 refine⟨rfl,.inl rfl,?_⟩
 show ACall ..
 refine .hand [(16,16)] [(16,.vars (muV (zcw m m.op.a 0)))] [.c (.ptr 16 0 0),.int (zbd m.op.a),.int 0] _ (.cons _ _ _ _ (.c _ _ (.ptr _ _ _ _ rfl)) (.cons _ _ _ _ .same (.cons _ _ _ _ .same .nil))) (.old 16 16 _ _ _ rfl rfl (.vars _ _ (zb rfl)) .nil) rfl (zaH (zcw m m.op.a 0) (zbd m.op.a) 0 (by rw[zi5];exact h)) ?_
 rintro H r ⟨rfl,rfl⟩ _ _
 refine⟨rfl,.inl rfl,?_⟩
 show ARet ..
 exact⟨[(16,16)],[(16,.vars (muV (endM (zcw m m.op.a 0) (zbd m.op.a) 0)))],[],.nil,.old 16 16 _ _ _ rfl rfl (.vars _ _ (zb rfl)) .nil,rfl,rfl,rfl⟩
theorem zsI (m:Mu) (hl:m.h.light) (h:0<m.t.ops.length):Spec X 153 [(16,.vars (muV m))] [.c (.ptr 16 0 0)] (fun H r=>H=[(16,.vars (muV (sizeM m)))]/\r = .tup []):=by
 refine zGO X_ok Tryz.f153 fun hb hH=>⟨rfl,?_⟩
 unfold sizeM
 show ADCall ..
 refine .mk _ _ (zbg m h) rfl ?_
 show ADCall ..
 refine .mk _ _ (zkQ m.h m.t m.op.a hl) rfl ?_
 show ACall ..
 refine .hand [(16,16)] [(16,.vars (muV m))] [.c (.ptr 16 0 0),.int (zd0 m.h m.t m.op.a),.int (zfy m.h m.t m.op.a)] _ (.cons _ _ _ _ (.c _ _ (.ptr _ _ _ _ rfl)) (.cons _ _ _ _ .same (.cons _ _ _ _ .same .nil))) (.old 16 16 _ _ _ rfl rfl (.vars _ _ (zb rfl)) .nil) rfl (zaH m (zd0 m.h m.t m.op.a) (zfy m.h m.t m.op.a) h) ?_
 rintro H r ⟨rfl,rfl⟩ _ _
 refine⟨rfl,.inl rfl,?_⟩
 show ARet ..
 exact⟨[(16,16)],[(16,.vars (muV (endM m (zd0 m.h m.t m.op.a) (zfy m.h m.t m.op.a))))],[],.nil,.old 16 16 _ _ _ rfl rfl (.vars _ _ (zb rfl)) .nil,rfl,rfl,rfl⟩
theorem zrS (m:Mu) (hs:m.h.small) (hlm:(zn (zeL m.h [m.t.cache])).length<=zk) (h:0<m.t.ops.length):Spec X 154 [(16,.vars (muV m))] [.c (.ptr 16 0 0)] (fun H r=>H=[(16,.vars (muV (exitM m)))]/\r = .tup []):=by
 refine zGO X_ok Tryz.f154 fun hb hH=>⟨rfl,?_⟩
 unfold exitM
 show ACall ..
 refine .hand [(16,16)] [(16,.vars (muV m))] [.c (.ptr 16 0 0),.int 0,.int 0] _ (.cons _ _ _ _ (.c _ _ (.ptr _ _ _ _ rfl)) (.cons _ _ _ _ .same (.cons _ _ _ _ .same .nil))) (.old 16 16 _ _ _ rfl rfl (.vars _ _ (zb rfl)) .nil) rfl (ziv m 0 0 h) ?_
 rintro H r ⟨rfl,rfl⟩ _ _
 refine⟨rfl,.inl rfl,?_⟩
 show ADCall ..
 refine .mk _ _ ((zsa m.h m.t.cache hs hlm).uz) rfl ?_
 show ARet ..
 refine⟨[(16,16)],[(16,.vars (muV {zjb m 0 0 with h:=zda m.h m.t.cache,t:=Thread.zero}))],[],.nil,.old 16 16 _ _ _ rfl rfl (.vars _ _ ?_) .nil,rfl,rfl,rfl⟩
 repeat (first|exact .nil|refine .cons _ _ _ _ (.d _) ?_|refine .cons _ _ _ _ (.nilsl _) ?_)
theorem zu1 (m:Mu) (h:0<m.t.ops.length):Spec X 155 [(16,.vars (muV m))] [.c (.ptr 16 0 0)] (fun H r=>H=[(16,.vars (muV (endM m 1 0)))]/\r = .tup []):=by
 refine zGO X_ok Tryz.f155 fun hb hH=>⟨rfl,?_⟩
 show ACall ..
 refine .hand [(16,16)] [(16,.vars (muV m))] [.c (.ptr 16 0 0),.int 1,.int 0] _ (.cons _ _ _ _ (.c _ _ (.ptr _ _ _ _ rfl)) (.cons _ _ _ _ .same (.cons _ _ _ _ .same .nil))) (.old 16 16 _ _ _ rfl rfl (.vars _ _ (zb rfl)) .nil) rfl (zaH m 1 0 h) ?_
 rintro H r ⟨rfl,rfl⟩ _ _
 refine⟨rfl,.inl rfl,?_⟩
 show ARet ..
 exact⟨[(16,16)],[(16,.vars (muV (endM m 1 0)))],[],.nil,.old 16 16 _ _ _ rfl rfl (.vars _ _ (zb rfl)) .nil,rfl,rfl,rfl⟩
theorem zcJ (m:Mu) (x:Op) (h:0<m.t.ops.length) (hx:m.op=x):Spec X 157 [] [.c (.d (.rp m.cells))] (Ret [] (.dagg (EK.enc .op x))):=hx▸zbg m h
set_option maxHeartbeats 4000000 in
theorem zqX (m:Mu) (k i j c:Int) (h:0<m.t.ops.length) (hx:m.op=⟨k,i,j,c⟩) (hi:i=0\/i=1\/i=2\/i=3) (hj:j=0\/j=1\/j=2\/j=3):Spec X 152 [(16,.vars (muV m))] [.c (.ptr 16 0 0)] (fun H r=>H=[(16,.vars (muV (sameM m)))]/\r = .tup []):=by
 have hE:zgi m=0:=by
  unfold zgi
  rw[hx]
  rcases hi with rfl|rfl|rfl|rfl<;>rcases hj with rfl|rfl|rfl|rfl<;>rfl
 unfold sameM
 rw[hE]
 rcases hi with rfl|rfl|rfl|rfl<;>rcases hj with rfl|rfl|rfl|rfl
 all_goals
  refine zGO X_ok Tryz.f152 fun hb hH=>⟨rfl,?_⟩
  show ACall ..
  refine za (zcJ m _ h hx) rfl ?_
  show ADCall ..
  refine .mk _ _ (zcI m _) rfl ?_
  show ADCall ..
  refine .mk _ _ (zcI m _) rfl ?_
  show ADCall ..
  refine .mk _ _ (ze3 _ _) rfl ?_
  show ABr ..
  refine⟨fun _=>?_,fun h=>absurd h (by dsimp only;decide)⟩
  show AOb ..
  refine⟨by show(0:Int)<=_/\_<(4:Int);dsimp only;decide,?_⟩
  show AOb ..
  refine⟨by show(0:Int)<=_/\_<(4:Int);dsimp only;decide,?_⟩
  show ABr (_==_) _ _
  refine⟨fun h1=>?_,fun h1=>?_⟩
  ·rw[if_pos ⟨rfl,by first|(rw[hx];done)|(rw[hx];exact eq_of_beq h1)⟩]
   show ACall ..
   refine .hand [(16,16)] [(16,.vars (muV m))] [.c (.ptr 16 0 0),.int 0,.int 1] _ (.cons _ _ _ _ (.c _ _ (.ptr _ _ _ _ rfl)) (.cons _ _ _ _ .same (.cons _ _ _ _ .same .nil))) (.old 16 16 _ _ _ rfl rfl (.vars _ _ (zb rfl)) .nil) rfl (zaH m 0 1 h) ?_
   rintro H r ⟨rfl,rfl⟩ _ _
   refine⟨rfl,.inl rfl,?_⟩
   show ARet ..
   exact⟨[(16,16)],[(16,.vars (muV (endM m 0 1)))],[],.nil,.old 16 16 _ _ _ rfl rfl (.vars _ _ (zb rfl)) .nil,rfl,rfl,rfl⟩
  ·rw[if_neg (fun e=>by
    have e2:=e.2
    rw[hx]at e2
    exact(beq_eq_false_iff_ne.1 h1) e2)]
   show ACall ..
   refine .hand [(16,16)] [(16,.vars (muV m))] [.c (.ptr 16 0 0),.int 0,.int 0] _ (.cons _ _ _ _ (.c _ _ (.ptr _ _ _ _ rfl)) (.cons _ _ _ _ .same (.cons _ _ _ _ .same .nil))) (.old 16 16 _ _ _ rfl rfl (.vars _ _ (zb rfl)) .nil) rfl (zaH m 0 0 h) ?_
   rintro H r ⟨rfl,rfl⟩ _ _
   refine⟨rfl,.inl rfl,?_⟩
   show ARet ..
   exact⟨[(16,16)],[(16,.vars (muV (endM m 0 0)))],[],.nil,.old 16 16 _ _ _ rfl rfl (.vars _ _ (zb rfl)) .nil,rfl,rfl,rfl⟩
theorem zpl (m:Mu) (h:0<m.t.ops.length) (hE:zgi m≠0):Spec X 152 [(16,.vars (muV m))] [.c (.ptr 16 0 0)] (fun H r=>H=[(16,.vars (muV (sameM m)))]/\r = .tup []):=by
 refine zGO X_ok Tryz.f152 fun hb hH=>⟨rfl,?_⟩
 unfold sameM
 rw[if_neg (fun k=>hE k.1)]
 show ACall ..
 refine za (zbg m h) rfl ?_
 show ADCall ..
 refine .mk _ _ (zcI m m.op.a) rfl ?_
 show ADCall ..
 refine .mk _ _ (zcI m m.op.b) rfl ?_
 show ADCall ..
 refine .mk _ _ (ze3 (zbd m.op.a) (zbd m.op.b)) rfl ?_
 show ABr (zgi m==0) _ _
 rw[show(zgi m==0)=false by simpa using hE]
 refine zNO (by decide) ?_
 refine zNO (by decide) ?_
 show ACall ..
 refine .hand [(16,16)] [(16,.vars (muV m))] [.c (.ptr 16 0 0),.int (zgi m),.int 0] _ (.cons _ _ _ _ (.c _ _ (.ptr _ _ _ _ rfl)) (.cons _ _ _ _ .same (.cons _ _ _ _ .same .nil))) (.old 16 16 _ _ _ rfl rfl (.vars _ _ (zb rfl)) .nil) rfl (zaH m (zgi m) 0 h) ?_
 rintro H r ⟨rfl,rfl⟩ _ _
 refine⟨rfl,.inl rfl,?_⟩
 show ARet ..
 exact⟨[(16,16)],[(16,.vars (muV (endM m (zgi m) 0)))],[],.nil,.old 16 16 _ _ _ rfl rfl (.vars _ _ (zb rfl)) .nil,rfl,rfl,rfl⟩
theorem zsT (m:Mu) (h:0<m.t.ops.length):Spec X 152 [(16,.vars (muV m))] [.c (.ptr 16 0 0)] (fun H r=>H=[(16,.vars (muV (sameM m)))]/\r = .tup []):=by
 by_cases hE:zgi m=0
 ·have h2:zbd m.op.a=0/\zbd m.op.b=0:=zkS (by unfold zgi at hE;exact fun k=>k hE)
  unfold zbd at h2
  have ha:0<=m.op.a/\m.op.a<=3:=Classical.byContradiction fun k=>by rw[if_neg k]at h2;exact absurd h2.1 (by decide)
  have hb:0<=m.op.b/\m.op.b<=3:=Classical.byContradiction fun k=>by rw[if_neg k]at h2;exact absurd h2.2 (by decide)
  have key:∀i j:Int,m.op.a=i->m.op.b=j->m.op=⟨m.op.kind,i,j,m.op.c⟩:=fun i j e1 e2=>by rw[←e1,←e2]
  have ea:m.op.a=0\/m.op.a=1\/m.op.a=2\/m.op.a=3:=by omega
  have eb:m.op.b=0\/m.op.b=1\/m.op.b=2\/m.op.b=3:=by omega
  exact zqX m _ _ _ _ h (key _ _ rfl rfl) ea eb
 ·exact zpl m h hE
def mu0 (g:Hp) (c:Col) (t:Thread):Mu:=⟨g,c,t,Res.zero,false⟩
def zhQ (m:Mu):TV:=.tup [m.h.tv,m.c.tv,m.t.tv,.dagg (EK.enc .res m.r),.bo m.told]
theorem zpv (g:Hp) (c:Col) (t:Thread) (hs:g.small) (hlm:(zn (zeL g [t.cache])).length<=zk) (hw:c.work.length<zk) (ht:t.ok) (hm:zgE g t=false):Spec X 116 [] [g.tv,c.tv,t.tv] (Ret [] (zhQ (mutS g c t))):=by
 refine zGO X_ok Tryz.f116 fun hb hH=>⟨rfl,?_⟩
 unfold mutS
 rw[if_neg (by rw[hm];decide)]
 show ACall ..
 refine .mk _ (zb8 g c t hs (Nat.le_of_lt hw) ht) fun H r ⟨eH,er⟩ _ _=>⟨.inl rfl,?_⟩
 subst eH er
 show ACall ..
 refine za ((zb7 g t hlm).uz) rfl ?_
 rw[hm]
 refine zNO (by decide) ?_
 show ARet ..
 exact zi rfl ⟨rfl,rfl⟩
theorem zro (g:Hp) (c:Col) (t:Thread) (a b d:Int) (hs:g.small) (hl:g.light) (hlm:(zn (zeL g [t.cache])).length<=zk) (hw:c.work.length<zk) (ht:t.ok) (hco:t.cache.ok) (hm:zgE g t=true) (h:0<t.ops.length) (hp:0<=t.pc/\t.pc<=4) (hx:(mu0 g c t).op=⟨0,a,b,d⟩):Spec X 116 [] [g.tv,c.tv,t.tv] (Ret [] (zhQ (createM (mu0 g c t)))):=by
 refine zGO X_ok Tryz.f116 fun hb hH=>⟨rfl,?_⟩
 show ACall ..
 refine .mk _ (zb8 g c t hs (Nat.le_of_lt hw) ht) fun H r ⟨eH,er⟩ _ _=>⟨.inl rfl,?_⟩
 subst eH er
 show ACall ..
 refine za ((zb7 g t hlm).uz) rfl ?_
 rw[hm]
 refine zYE (by decide) ?_
 show ACall ..
 refine za (zcJ (mu0 g c t) _ h hx) rfl ?_
 show ABr (bif decide ((0:Int)>=0) then decide ((0:Int)<7) else false) _ _
 refine zYE (by decide) ?_
 show AOb ..
 refine⟨by show(0:Int)<=0/\(0:Int)<7;decide,?_⟩
 show ACall ..
 refine .hand [(_,16)] [(16,.vars (muV (mu0 g c t)))] [.c (.ptr 16 0 0)] _ (.cons _ _ _ _ (.c _ _ (.ptr1 _ _ _ _)) .nil) (.old 16 _ _ _ _ rfl rfl (.vars _ _ (zb rfl)) .nil) rfl (zom (mu0 g c t) hs ht hco hlm h) ?_
 rintro H r ⟨rfl,rfl⟩ _ _
 refine⟨rfl,.inl rfl,?_⟩
 generalize createM (mu0 g c t)=m'
 show ARet ..
 exact zi rfl ⟨rfl,rfl⟩
theorem zp3 (g:Hp) (c:Col) (t:Thread) (a b d:Int) (hs:g.small) (hl:g.light) (hlm:(zn (zeL g [t.cache])).length<=zk) (hw:c.work.length<zk) (ht:t.ok) (hco:t.cache.ok) (hm:zgE g t=true) (h:0<t.ops.length) (hp:0<=t.pc/\t.pc<=4) (hx:(mu0 g c t).op=⟨1,a,b,d⟩):Spec X 116 [] [g.tv,c.tv,t.tv] (Ret [] (zhQ (loadM (mu0 g c t)))):=by
 refine zGO X_ok Tryz.f116 fun hb hH=>⟨rfl,?_⟩
 show ACall ..
 refine .mk _ (zb8 g c t hs (Nat.le_of_lt hw) ht) fun H r ⟨eH,er⟩ _ _=>⟨.inl rfl,?_⟩
 subst eH er
 show ACall ..
 refine za ((zb7 g t hlm).uz) rfl ?_
 rw[hm]
 refine zYE (by decide) ?_
 show ACall ..
 refine za (zcJ (mu0 g c t) _ h hx) rfl ?_
 show ABr (bif decide ((1:Int)>=0) then decide ((1:Int)<7) else false) _ _
 refine zYE (by decide) ?_
 show AOb ..
 refine⟨by show(0:Int)<=1/\(1:Int)<7;decide,?_⟩
 show ACall ..
 refine .hand [(_,16)] [(16,.vars (muV (mu0 g c t)))] [.c (.ptr 16 0 0)] _ (.cons _ _ _ _ (.c _ _ (.ptr1 _ _ _ _)) .nil) (.old 16 _ _ _ _ rfl rfl (.vars _ _ (zb rfl)) .nil) rfl (zsr (mu0 g c t) hl ht h) ?_
 rintro H r ⟨rfl,rfl⟩ _ _
 refine⟨rfl,.inl rfl,?_⟩
 generalize loadM (mu0 g c t)=m'
 show ARet ..
 exact zi rfl ⟨rfl,rfl⟩
theorem zqM (g:Hp) (c:Col) (t:Thread) (a b d:Int) (hs:g.small) (hl:g.light) (hlm:(zn (zeL g [t.cache])).length<=zk) (hw:c.work.length<zk) (ht:t.ok) (hco:t.cache.ok) (hm:zgE g t=true) (h:0<t.ops.length) (hp:0<=t.pc/\t.pc<=4) (hx:(mu0 g c t).op=⟨2,a,b,d⟩):Spec X 116 [] [g.tv,c.tv,t.tv] (Ret [] (zhQ (storeM (mu0 g c t)))):=by
 refine zGO X_ok Tryz.f116 fun hb hH=>⟨rfl,?_⟩
 show ACall ..
 refine .mk _ (zb8 g c t hs (Nat.le_of_lt hw) ht) fun H r ⟨eH,er⟩ _ _=>⟨.inl rfl,?_⟩
 subst eH er
 show ACall ..
 refine za ((zb7 g t hlm).uz) rfl ?_
 rw[hm]
 refine zYE (by decide) ?_
 show ACall ..
 refine za (zcJ (mu0 g c t) _ h hx) rfl ?_
 show ABr (bif decide ((2:Int)>=0) then decide ((2:Int)<7) else false) _ _
 refine zYE (by decide) ?_
 show AOb ..
 refine⟨by show(0:Int)<=2/\(2:Int)<7;decide,?_⟩
 show ACall ..
 refine .hand [(_,16)] [(16,.vars (muV (mu0 g c t)))] [.c (.ptr 16 0 0)] _ (.cons _ _ _ _ (.c _ _ (.ptr1 _ _ _ _)) .nil) (.old 16 _ _ _ _ rfl rfl (.vars _ _ (zb rfl)) .nil) rfl (zrn (mu0 g c t) hl hs hw h hp) ?_
 rintro H r ⟨rfl,rfl⟩ _ _
 refine⟨rfl,.inl rfl,?_⟩
 generalize storeM (mu0 g c t)=m'
 show ARet ..
 exact zi rfl ⟨rfl,rfl⟩
theorem zpE (g:Hp) (c:Col) (t:Thread) (a b d:Int) (hs:g.small) (hl:g.light) (hlm:(zn (zeL g [t.cache])).length<=zk) (hw:c.work.length<zk) (ht:t.ok) (hco:t.cache.ok) (hm:zgE g t=true) (h:0<t.ops.length) (hp:0<=t.pc/\t.pc<=4) (hx:(mu0 g c t).op=⟨3,a,b,d⟩):Spec X 116 [] [g.tv,c.tv,t.tv] (Ret [] (zhQ (dropM (mu0 g c t)))):=by
 refine zGO X_ok Tryz.f116 fun hb hH=>⟨rfl,?_⟩
 show ACall ..
 refine .mk _ (zb8 g c t hs (Nat.le_of_lt hw) ht) fun H r ⟨eH,er⟩ _ _=>⟨.inl rfl,?_⟩
 subst eH er
 show ACall ..
 refine za ((zb7 g t hlm).uz) rfl ?_
 rw[hm]
 refine zYE (by decide) ?_
 show ACall ..
 refine za (zcJ (mu0 g c t) _ h hx) rfl ?_
 show ABr (bif decide ((3:Int)>=0) then decide ((3:Int)<7) else false) _ _
 refine zYE (by decide) ?_
 show AOb ..
 refine⟨by show(0:Int)<=3/\(3:Int)<7;decide,?_⟩
 show ACall ..
 refine .hand [(_,16)] [(16,.vars (muV (mu0 g c t)))] [.c (.ptr 16 0 0)] _ (.cons _ _ _ _ (.c _ _ (.ptr1 _ _ _ _)) .nil) (.old 16 _ _ _ _ rfl rfl (.vars _ _ (zb rfl)) .nil) rfl (zsk (mu0 g c t) ht h) ?_
 rintro H r ⟨rfl,rfl⟩ _ _
 refine⟨rfl,.inl rfl,?_⟩
 generalize dropM (mu0 g c t)=m'
 show ARet ..
 exact zi rfl ⟨rfl,rfl⟩
theorem zq3 (g:Hp) (c:Col) (t:Thread) (a b d:Int) (hs:g.small) (hl:g.light) (hlm:(zn (zeL g [t.cache])).length<=zk) (hw:c.work.length<zk) (ht:t.ok) (hco:t.cache.ok) (hm:zgE g t=true) (h:0<t.ops.length) (hp:0<=t.pc/\t.pc<=4) (hx:(mu0 g c t).op=⟨4,a,b,d⟩):Spec X 116 [] [g.tv,c.tv,t.tv] (Ret [] (zhQ (sameM (mu0 g c t)))):=by
 refine zGO X_ok Tryz.f116 fun hb hH=>⟨rfl,?_⟩
 show ACall ..
 refine .mk _ (zb8 g c t hs (Nat.le_of_lt hw) ht) fun H r ⟨eH,er⟩ _ _=>⟨.inl rfl,?_⟩
 subst eH er
 show ACall ..
 refine za ((zb7 g t hlm).uz) rfl ?_
 rw[hm]
 refine zYE (by decide) ?_
 show ACall ..
 refine za (zcJ (mu0 g c t) _ h hx) rfl ?_
 show ABr (bif decide ((4:Int)>=0) then decide ((4:Int)<7) else false) _ _
 refine zYE (by decide) ?_
 show AOb ..
 refine⟨by show(0:Int)<=4/\(4:Int)<7;decide,?_⟩
 show ACall ..
 refine .hand [(_,16)] [(16,.vars (muV (mu0 g c t)))] [.c (.ptr 16 0 0)] _ (.cons _ _ _ _ (.c _ _ (.ptr1 _ _ _ _)) .nil) (.old 16 _ _ _ _ rfl rfl (.vars _ _ (zb rfl)) .nil) rfl (zsT (mu0 g c t) h) ?_
 rintro H r ⟨rfl,rfl⟩ _ _
 refine⟨rfl,.inl rfl,?_⟩
 generalize sameM (mu0 g c t)=m'
 show ARet ..
 exact zi rfl ⟨rfl,rfl⟩
theorem zrC (g:Hp) (c:Col) (t:Thread) (a b d:Int) (hs:g.small) (hl:g.light) (hlm:(zn (zeL g [t.cache])).length<=zk) (hw:c.work.length<zk) (ht:t.ok) (hco:t.cache.ok) (hm:zgE g t=true) (h:0<t.ops.length) (hp:0<=t.pc/\t.pc<=4) (hx:(mu0 g c t).op=⟨5,a,b,d⟩):Spec X 116 [] [g.tv,c.tv,t.tv] (Ret [] (zhQ (sizeM (mu0 g c t)))):=by
 refine zGO X_ok Tryz.f116 fun hb hH=>⟨rfl,?_⟩
 show ACall ..
 refine .mk _ (zb8 g c t hs (Nat.le_of_lt hw) ht) fun H r ⟨eH,er⟩ _ _=>⟨.inl rfl,?_⟩
 subst eH er
 show ACall ..
 refine za ((zb7 g t hlm).uz) rfl ?_
 rw[hm]
 refine zYE (by decide) ?_
 show ACall ..
 refine za (zcJ (mu0 g c t) _ h hx) rfl ?_
 show ABr (bif decide ((5:Int)>=0) then decide ((5:Int)<7) else false) _ _
 refine zYE (by decide) ?_
 show AOb ..
 refine⟨by show(0:Int)<=5/\(5:Int)<7;decide,?_⟩
 show ACall ..
 refine .hand [(_,16)] [(16,.vars (muV (mu0 g c t)))] [.c (.ptr 16 0 0)] _ (.cons _ _ _ _ (.c _ _ (.ptr1 _ _ _ _)) .nil) (.old 16 _ _ _ _ rfl rfl (.vars _ _ (zb rfl)) .nil) rfl (zsI (mu0 g c t) hl h) ?_
 rintro H r ⟨rfl,rfl⟩ _ _
 refine⟨rfl,.inl rfl,?_⟩
 generalize sizeM (mu0 g c t)=m'
 show ARet ..
 exact zi rfl ⟨rfl,rfl⟩
theorem zq8 (g:Hp) (c:Col) (t:Thread) (a b d:Int) (hs:g.small) (hl:g.light) (hlm:(zn (zeL g [t.cache])).length<=zk) (hw:c.work.length<zk) (ht:t.ok) (hco:t.cache.ok) (hm:zgE g t=true) (h:0<t.ops.length) (hp:0<=t.pc/\t.pc<=4) (hx:(mu0 g c t).op=⟨6,a,b,d⟩):Spec X 116 [] [g.tv,c.tv,t.tv] (Ret [] (zhQ (exitM (mu0 g c t)))):=by
 refine zGO X_ok Tryz.f116 fun hb hH=>⟨rfl,?_⟩
 show ACall ..
 refine .mk _ (zb8 g c t hs (Nat.le_of_lt hw) ht) fun H r ⟨eH,er⟩ _ _=>⟨.inl rfl,?_⟩
 subst eH er
 show ACall ..
 refine za ((zb7 g t hlm).uz) rfl ?_
 rw[hm]
 refine zYE (by decide) ?_
 show ACall ..
 refine za (zcJ (mu0 g c t) _ h hx) rfl ?_
 show ABr (bif decide ((6:Int)>=0) then decide ((6:Int)<7) else false) _ _
 refine zYE (by decide) ?_
 show AOb ..
 refine⟨by show(0:Int)<=6/\(6:Int)<7;decide,?_⟩
 show ACall ..
 refine .hand [(_,16)] [(16,.vars (muV (mu0 g c t)))] [.c (.ptr 16 0 0)] _ (.cons _ _ _ _ (.c _ _ (.ptr1 _ _ _ _)) .nil) (.old 16 _ _ _ _ rfl rfl (.vars _ _ (zb rfl)) .nil) rfl (zrS (mu0 g c t) hs hlm h) ?_
 rintro H r ⟨rfl,rfl⟩ _ _
 refine⟨rfl,.inl rfl,?_⟩
 generalize exitM (mu0 g c t)=m'
 show ARet ..
 exact zi rfl ⟨rfl,rfl⟩
theorem zq6 (g:Hp) (c:Col) (t:Thread) (hs:g.small) (hl:g.light) (hlm:(zn (zeL g [t.cache])).length<=zk) (hw:c.work.length<zk) (ht:t.ok) (hco:t.cache.ok) (hm:zgE g t=true) (h:0<t.ops.length) (hp:0<=t.pc/\t.pc<=4) (hx:¬(0<=(mu0 g c t).op.kind/\(mu0 g c t).op.kind<=6)):Spec X 116 [] [g.tv,c.tv,t.tv] (Ret [] (zhQ (endM (mu0 g c t) 1 0))):=by
 refine zGO X_ok Tryz.f116 fun hb hH=>⟨rfl,?_⟩
 show ACall ..
 refine .mk _ (zb8 g c t hs (Nat.le_of_lt hw) ht) fun H r ⟨eH,er⟩ _ _=>⟨.inl rfl,?_⟩
 subst eH er
 show ACall ..
 refine za ((zb7 g t hlm).uz) rfl ?_
 rw[hm]
 refine zYE (by decide) ?_
 show ACall ..
 refine za (zbg (mu0 g c t) h) rfl ?_
 show ABr (bif decide ((mu0 g c t).op.kind>=0) then decide ((mu0 g c t).op.kind<7) else false) _ _
 rw[show(bif decide ((mu0 g c t).op.kind>=0) then decide ((mu0 g c t).op.kind<7) else false)=false by
  by_cases h1:(mu0 g c t).op.kind>=0
  ·rw[decide_eq_true h1,decide_eq_false (by omega)];rfl
  ·rw[decide_eq_false h1];rfl]
 refine zNO (by decide) ?_
 show ACall ..
 refine .hand [(_,16)] [(16,.vars (muV (mu0 g c t)))] [.c (.ptr 16 0 0)] _ (.cons _ _ _ _ (.c _ _ (.ptr1 _ _ _ _)) .nil) (.old 16 _ _ _ _ rfl rfl (.vars _ _ (zb rfl)) .nil) rfl (zu1 (mu0 g c t) h) ?_
 rintro H r ⟨rfl,rfl⟩ _ _
 refine⟨rfl,.inl rfl,?_⟩
 generalize endM (mu0 g c t) 1 0=m'
 show ARet ..
 exact zi rfl ⟨rfl,rfl⟩
theorem zsp (g:Hp) (c:Col) (t:Thread) (hs:g.small) (hl:g.light) (hlm:(zn (zeL g [t.cache])).length<=zk) (hw:c.work.length<zk) (ht:t.ok) (hco:t.cache.ok):Spec X 116 [] [g.tv,c.tv,t.tv] (Ret [] (zhQ (mutS g c t))):=by
 by_cases hm:zgE g t=true
 ·have hm':=hm
  unfold zgE at hm'
  simp only[Bool.and_eq_true,decide_eq_true_eq]at hm'
  obtain⟨hT,_,h,_⟩:=hm'
  have hp:0<=t.pc/\t.pc<=4:=⟨hT.2.2.2.2.1,hT.2.2.2.2.2.1⟩
  have hS:mutS g c t=zdB (mu0 g c t):=by unfold mutS;rw[if_pos hm];rfl
  rw[hS]
  by_cases hk:0<=(mu0 g c t).op.kind/\(mu0 g c t).op.kind<=6
  ·have key:∀i:Int,(mu0 g c t).op.kind=i->(mu0 g c t).op=⟨i,(mu0 g c t).op.a,(mu0 g c t).op.b,(mu0 g c t).op.c⟩:=fun i e=>by rw[←e]
   have e:(mu0 g c t).op.kind=0\/(mu0 g c t).op.kind=1\/(mu0 g c t).op.kind=2\/(mu0 g c t).op.kind=3\/(mu0 g c t).op.kind=4\/(mu0 g c t).op.kind=5\/(mu0 g c t).op.kind=6:=by omega
   unfold zdB
   rcases e with e|e|e|e|e|e|e
   ·rw[e];exact zro g c t _ _ _ hs hl hlm hw ht hco hm h hp (key _ e)
   ·rw[e];exact zp3 g c t _ _ _ hs hl hlm hw ht hco hm h hp (key _ e)
   ·rw[e];exact zqM g c t _ _ _ hs hl hlm hw ht hco hm h hp (key _ e)
   ·rw[e];exact zpE g c t _ _ _ hs hl hlm hw ht hco hm h hp (key _ e)
   ·rw[e];exact zq3 g c t _ _ _ hs hl hlm hw ht hco hm h hp (key _ e)
   ·rw[e];exact zrC g c t _ _ _ hs hl hlm hw ht hco hm h hp (key _ e)
   ·rw[e];exact zq8 g c t _ _ _ hs hl hlm hw ht hco hm h hp (key _ e)
  ·unfold zdB
   rw[if_neg (by omega),if_neg (by omega),if_neg (by omega),if_neg (by omega),if_neg (by omega),if_neg (by omega),if_neg (by omega)]
   exact zq6 g c t hs hl hlm hw ht hco hm h hp hk
 ·exact zpv g c t hs hlm hw ht (by simpa using hm)
abbrev rnL (w:Wd):zg:=[(16,.vars (wdO w 17 0)),(17,.data .thread w.t),(18,.dead),(0,.data .res w.log)]
theorem zsZ (w:Wd) (n:Int) (hF:w.Fit):Spec X 74 (rnH w) [.c (.ptr 16 0 0),.int n] (fun H r=>(H=rnH (stepW w n)\/H=rnL (stepW w n))/\r = .int (zcA w n)):=by
 refine zGO X_ok Tryz.f74 fun hb hH=>⟨rfl,?_⟩
 have hg:=hF.light
 have h1':=fun(t:Thread) (ht:t∈w.t)=>hF.one ht
 obtain⟨hs,hw,hl,hth,hfl,hlog⟩:=hF
 show ACall ..
 refine za (zre w n) rfl ?_
 cases hi:zfd w n with
 |false=>
  have e1:stepW w n=w:=by unfold stepW;rw[if_pos hi]
  have e2:zcA w n=3:=by unfold zcA;rw[if_pos hi]
  rw[e1,e2]
  refine zYE (by decide) ?_
  show ARet ..
  exact⟨[(16,16),(17,17),(18,18)],rnH (w),[.int (3)],.cons _ _ _ _ .same .nil,.old 16 16 _ _ _ rfl rfl (.vars _ _ (by repeat (first|exact .nil|refine .cons _ _ _ _ (.d _) ?_|refine .cons _ _ _ _ (.own _ _ rfl) ?_))) (.old 17 17 _ _ _ rfl rfl (.data_eq rfl) (.old 18 18 _ _ _ rfl rfl (.data_eq rfl) .nil)),rfl,.inl rfl,rfl⟩
 |true=>
  have hr:0<=n/\n<(w.t.length:Int):=of_decide_eq_true hi
  have hlt:n.toNat<w.t.length:=by omega
  refine zNO (by decide) ?_
  show AOb ..
  refine⟨by exact hr,?_⟩
  show AOb ..
  refine⟨by exact hlt,?_⟩
  show ADCall ..
  refine .mk _ _ (zmj w.c (thW w n)) rfl ?_
  show AOb ..
  refine⟨by exact hlt,?_⟩
  cases hlv:(thW w n).live with
  |false=>
   have e0:zbP w n=true:=by unfold zbP;rw[hlv];rfl
   have e1:stepW w n=w:=by unfold stepW;rw[if_neg (by rw[hi];decide),if_pos e0]
   have e2:zcA w n=3:=by unfold zcA;rw[if_neg (by rw[hi];decide),if_pos e0]
   rw[e1,e2]
   show ABr (!(thW w n).live) _ _
   rw[hlv]
   refine zYE (by decide) ?_
   show ABr (!(thW w n).live) _ _
   rw[hlv]
   refine zYE (by decide) ?_
   show ARet ..
   exact⟨[(16,16),(17,17),(18,18)],rnH (w),[.int (3)],.cons _ _ _ _ .same .nil,.old 16 16 _ _ _ rfl rfl (.vars _ _ (by repeat (first|exact .nil|refine .cons _ _ _ _ (.d _) ?_|refine .cons _ _ _ _ (.own _ _ rfl) ?_))) (.old 17 17 _ _ _ rfl rfl (.data_eq rfl) (.old 18 18 _ _ _ rfl rfl (.data_eq rfl) .nil)),rfl,.inl rfl,rfl⟩
  |true=>
   show ABr (!(thW w n).live) _ _
   rw[hlv]
   refine zNO (by decide) ?_
   show AOb ..
   refine⟨by exact fun _=>hlt,?_⟩
   show ABr (bif !zaS w.c (thW w n) then (((thW w n).ops.length:Int)==0) else false) _ _
   cases ha:zaS w.c (thW w n) with
   |true=>
    have e0:zbP w n=false:=by unfold zbP;rw[hlv,ha];rfl
    have e1:stepW w n=⟨ansG w.h w.c (thW w n),ansC w.h w.c (thW w n),w.t.set n.toNat (ansT w.c (thW w n)),w.log⟩:=by unfold stepW;rw[if_neg (by rw[hi];decide),if_neg (by rw[e0];decide),if_pos ha]
    have e2:zcA w n=0:=by unfold zcA;rw[if_neg (by rw[hi];decide),if_neg (by rw[e0];decide)]
    rw[e1,e2]
    show ABr false _ _
    refine zNO (by decide) ?_
    refine zYE (by decide) ?_
    show AOb ..
    refine⟨by exact hlt,?_⟩
    show ADCall ..
    refine .mk _ _ (zqy w.h w.c (thW w n) hg hs hw (hth _ (zb6 hi)).1) rfl ?_
    generalize ansG w.h w.c (thW w n)=g'
    generalize ansC w.h w.c (thW w n)=c'
    generalize ansT w.c (thW w n)=u
    show AOb ..
    refine⟨by exact hlt,?_⟩
    show ARet ..
    exact⟨[(16,16),(17,17),(18,18)],rnH ((⟨g',c',w.t.set n.toNat u,w.log⟩:Wd)),[.int (0)],.cons _ _ _ _ .same .nil,.old 16 16 _ _ _ rfl rfl (.vars _ _ (by repeat (first|exact .nil|refine .cons _ _ _ _ (.d _) ?_|refine .cons _ _ _ _ (.own _ _ rfl) ?_))) (.old 17 17 _ _ _ rfl rfl (.data_eq rfl) (.old 18 18 _ _ _ rfl rfl (.data_eq rfl) .nil)),rfl,.inl rfl,rfl⟩
   |false=>
    by_cases ho:(thW w n).ops.length=0
    ·have e0:zbP w n=true:=by unfold zbP;rw[hlv,ha,decide_eq_true ho];rfl
     have e1:stepW w n=w:=by unfold stepW;rw[if_neg (by rw[hi];decide),if_pos e0]
     have e2:zcA w n=3:=by unfold zcA;rw[if_neg (by rw[hi];decide),if_pos e0]
     rw[e1,e2,show(((thW w n).ops.length:Int)==0)=true by rw[ho];rfl]
     refine zYE (by decide) ?_
     show ARet ..
     exact⟨[(16,16),(17,17),(18,18)],rnH (w),[.int (3)],.cons _ _ _ _ .same .nil,.old 16 16 _ _ _ rfl rfl (.vars _ _ (by repeat (first|exact .nil|refine .cons _ _ _ _ (.d _) ?_|refine .cons _ _ _ _ (.own _ _ rfl) ?_))) (.old 17 17 _ _ _ rfl rfl (.data_eq rfl) (.old 18 18 _ _ _ rfl rfl (.data_eq rfl) .nil)),rfl,.inl rfl,rfl⟩
    ·have e0:zbP w n=false:=by unfold zbP;rw[hlv,ha,decide_eq_false ho];rfl
     have e1:stepW w n=⟨(mutS w.h w.c (thW w n)).h,(mutS w.h w.c (thW w n)).c,w.t.set n.toNat (mutS w.h w.c (thW w n)).t,zru w n (mutS w.h w.c (thW w n))⟩:=by unfold stepW;rw[if_neg (by rw[hi];decide),if_neg (by rw[e0];decide),if_neg (by rw[ha];decide)]
     have e2:zcA w n=0:=by unfold zcA;rw[if_neg (by rw[hi];decide),if_neg (by rw[e0];decide)]
     rw[e1,e2,show(((thW w n).ops.length:Int)==0)=false by rw[beq_eq_false_iff_ne];omega]
     refine zNO (by decide) ?_
     refine zNO (by decide) ?_
     show AOb ..
     refine⟨by exact hlt,?_⟩
     show ADCall ..
     refine .mk _ _ (zsp w.h w.c (thW w n) hs hg (h1' _ (zb6 hi)) hw (hth _ (zb6 hi)).1 (hth _ (zb6 hi)).2) rfl ?_
     generalize mutS w.h w.c (thW w n)=m
     show AOb ..
     refine⟨by exact hlt,?_⟩
     show ABr m.told _ _
     cases hm:m.told with
     |false=>
      have e3:zru w n m=w.log:=by unfold zru;rw[hm];rfl
      rw[e3]
      refine zNO (by decide) ?_
      show ARet ..
      exact⟨[(16,16),(17,17),(18,18)],rnH ((⟨m.h,m.c,w.t.set n.toNat m.t,w.log⟩:Wd)),[.int (0)],.cons _ _ _ _ .same .nil,.old 16 16 _ _ _ rfl rfl (.vars _ _ (by repeat (first|exact .nil|refine .cons _ _ _ _ (.d _) ?_|refine .cons _ _ _ _ (.own _ _ rfl) ?_))) (.old 17 17 _ _ _ rfl rfl (.data_eq rfl) (.old 18 18 _ _ _ rfl rfl (.data_eq rfl) .nil)),rfl,.inl rfl,rfl⟩
     |true=>
      have e3:zru w n m=w.log++[{m.r with thread:=n}]:=by unfold zru;rw[hm];rfl
      rw[e3]
      refine zYE (by decide) ?_
      show AOb (w.log.length+1<=zk) _
      refine⟨hlog,?_⟩
      show ARet ..
      exact⟨[(16,16),(17,17),(18,18),(3200,0)],rnL ((⟨m.h,m.c,w.t.set n.toNat m.t,w.log++[{m.r with thread:=n}]⟩:Wd)),[.int (0)],.cons _ _ _ _ .same .nil,.old 16 16 _ _ _ rfl rfl (.vars _ _ (by repeat (first|exact .nil|refine .cons _ _ _ _ (.d _) ?_|refine .cons _ _ _ _ (.own _ _ rfl) ?_))) (.old 17 17 _ _ _ rfl rfl (.data_eq rfl) (.old 18 18 _ _ _ rfl rfl .dead (.old 0 3200 _ _ _ rfl rfl (.data_eq rfl) .nil))),rfl,.inr rfl,rfl⟩
end Go.Abs
