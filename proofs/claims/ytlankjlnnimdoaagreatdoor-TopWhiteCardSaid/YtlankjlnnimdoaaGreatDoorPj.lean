/- Walks and plain laws: WTop, WTopC, WTakeK, WTakeL, WKeepW, WHeapNew, WEpochK, WTopD, WTopE, WAudit, WTopF. -/
import Derived.Test.YtlankjlnnimdoaaGreatDoorPi
import Derived.Test.YtlankjlnnimdoaaGreatDoorPh
import Derived.Test.YtlankjlnnimdoaaGreatDoorPf
import Derived.Test.YtlankjlnnimdoaaGreatDoorPd
set_option linter.all false
namespace Go.Abs
open Go.Proofs Go.Proofs.YtlankjlnnimdoaaGreatDoor
set_option maxRecDepth 60000
set_option maxHeartbeats 4000000
def ziq (l:List (List Op)) (e:List Pair) (m:Int):Bool:=decide (l.length<=4)&&(decide ((e.length:Int)<=m)&&l.all fun x=>decide (x.length<=60))
theorem znn (l:List (List Op)) (e:List Pair) (m:Int):Spec X 8 [] [.c (.d (.sl .opss l)),.c (.d (.sl .pair e)),.int m] (Ret [] (.bo (ziq l e m))):=by
 refine zGO X_ok Tryz.f8 fun hb hH=>⟨rfl,?_⟩
 unfold ziq
 show ABr (bif decide ((l.length:Int)>4) then true else decide ((e.length:Int)>m)) _ _
 by_cases h4:l.length<=4
 ·rw[decide_eq_false (show ¬(l.length:Int)>4 by omega),decide_eq_true h4]
  by_cases hm:(e.length:Int)<=m
  ·rw[show(bif false then true else decide ((e.length:Int)>m))=false from decide_eq_false (by omega),decide_eq_true hm]
   refine zNO (by decide) ?_
   show ∃n,_
   refine⟨0,ALoop.inv (ι:={i:Nat // i<=l.length/\∀j,j<i->(l.getD j default).length<=60}) (fun q=>⟨[(0,(.c (.d (.sl .opss l)))),(7,.int (q.1))],[],64⟩) (fun q=>l.length-q.1) ⟨0,Nat.zero_le _,fun j hj=>absurd hj (Nat.not_lt_zero j)⟩ ?_ ?_⟩
   ·exact⟨[],(by repeat' first|exact .nil|refine .cons _ _ _ ?_ ?_|exact .same|exact .c _ _ (.own _ _ rfl)|exact .c _ _ (.ptr _ _ _ _ rfl)|exact .c _ _ (.frz _ _ rfl)|exact .any _),(by exact .nil),(by rfl)⟩
   rintro⟨i,hi,hg⟩
   show ABr (decide ((i:Int)<(l.length:Int))) _ _
   refine⟨fun h=>?_,fun h=>?_⟩
   ·have hlt:i<l.length:=by simpa using h
    have wi:IntKind.i64.wrap ((i:Int)+1)=((i+1:Nat):Int):=zP (i:=i) (by unfold zA;omega)
    show AOb ..
    refine⟨by exact⟨Int.natCast_nonneg _,Int.ofNat_lt.2 hlt⟩,?_⟩
    show ABr (decide (((l.getD i default).length:Int)>60)) _ _
    by_cases hx:(l.getD i default).length<=60
    ·rw[decide_eq_false (show ¬((l.getD i default).length:Int)>60 by omega)]
     refine zNO (by decide) ?_
     show ARound ..
     exact⟨⟨i+1,hlt,fun j hj=>(Nat.lt_succ_iff_lt_or_eq.1 hj).elim (hg j) (fun k=>k▸hx)⟩,(by dsimp only;omega),[],(by repeat' first|exact .nil|refine .cons _ _ _ ?_ ?_|exact .int_eq wi|exact .same|exact .c _ _ (.own _ _ rfl)|exact .c _ _ (.ptr _ _ _ _ rfl)|exact .c _ _ (.frz _ _ rfl)|exact .any _),(by exact .nil),(by rfl)⟩
    ·rw[decide_eq_true (show((l.getD i default).length:Int)>60 by omega)]
     refine zYE (by decide) ?_
     show ARet ..
     refine zo (x:=false) ?_ ⟨rfl,rfl⟩
     symm
     show(l.all fun x=>decide (x.length<=60))=false
     rw[List.all_eq_false]
     exact⟨_,zcg hlt,by simpa using hx⟩
   ·have hie:i=l.length:=by simp at h;omega
    show ARet ..
    refine zo (x:=true) ?_ ⟨rfl,rfl⟩
    symm
    show(l.all fun x=>decide (x.length<=60))=true
    rw[List.all_eq_true]
    intro x hx
    obtain⟨j,hj,e⟩:=List.mem_iff_getElem.1 hx
    have:=hg j (by omega)
    rw[show l.getD j default=x from by rw[List.getD_eq_getElem?_getD,List.getElem?_eq_getElem hj,e];rfl]at this
    exact decide_eq_true this
  ·rw[show(bif false then true else decide ((e.length:Int)>m))=true from decide_eq_true (by omega),decide_eq_false hm]
   refine zYE (by decide) ?_
   show ARet ..
   exact zg rfl ⟨rfl,rfl⟩
 ·rw[decide_eq_true (show(l.length:Int)>4 by omega),decide_eq_false h4]
  show ABr true _ _
  refine zYE (by decide) ?_
  show ARet ..
  exact zg rfl ⟨rfl,rfl⟩
theorem zn1 (w:Wd) (m:Bool) (hF:w.Fit):Spec X 13 [] [w.tv,.bo m] (Ret [] (zbK w m).tv):=by
 refine zGO X_ok Tryz.f13 fun hb hH=>⟨rfl,?_⟩
 unfold zbK
 show ABr m _ _
 cases m with
 |true=>
  refine zYE (by decide) ?_
  show ACall ..
  refine za (zdQ w ⟨3,0⟩ hF) rfl ?_
  rw[if_pos rfl]
  generalize doW w ⟨3,0⟩=w'
  show ARet ..
  refine⟨[],[],[(w').tv],.cons _ _ _ _ (.agg _ _ ?_) .nil,.nil,rfl,rfl,rfl⟩
  repeat (first|exact .nil|refine .cons _ _ _ _ (.d _) ?_|refine .cons _ _ _ _ (.nilsl _) ?_|refine .cons _ _ _ _ (.frz _ _ rfl) ?_)
 |false=>
  refine zNO (by decide) ?_
  show ACall ..
  refine za (zdQ w ⟨2,0⟩ hF) rfl ?_
  rw[if_neg (by decide)]
  generalize doW w ⟨2,0⟩=w'
  show ARet ..
  refine⟨[],[],[(w').tv],.cons _ _ _ _ (.agg _ _ ?_) .nil,.nil,rfl,rfl,rfl⟩
  repeat (first|exact .nil|refine .cons _ _ _ _ (.d _) ?_|refine .cons _ _ _ _ (.nilsl _) ?_|refine .cons _ _ _ _ (.frz _ _ rfl) ?_)
theorem zyu {ρ:List (Nat×Nat)} {h h' : zh} {k:EK} {l l' : List k.T} (e:l=l'):LeT ρ h h' (.c (.d (.sl k l))) (.c (.d (.sl k l'))):=e▸.c _ _ (.d _)
theorem zt9 (w:Wd) (l:List Pair) (hl:l.length<=20000) (hF:∀i,i<=l.length->(runW w (l.take i)).Fit):Spec X 23 [] [w.tv,.c (.d (.sl .pair l))] (Ret [] (.tup [(runW w l).tv,.any])):=by
 refine zGO X_ok Tryz.f23 fun hb hH=>⟨rfl,?_⟩
 show ACall ..
 refine .mk _ (zmZ w (hF 0 (Nat.zero_le _))) fun H r ⟨eH,er⟩ _ _=>⟨.inl rfl,?_⟩
 subst eH er
 have hmn:(if (20000:Int)<(l.length:Int) then (20000:Int) else (l.length:Int))=(l.length:Int):=if_neg (by omega)
 show AOb ((0:Int)<=(if (20000:Int)<(l.length:Int) then (20000:Int) else (l.length:Int))/\(if (20000:Int)<(l.length:Int) then (20000:Int) else (l.length:Int))<=_) _
 refine⟨⟨by omega,by rw[hmn];exact Int.le_refl _⟩,?_⟩
 have hcut:l.take (if (20000:Int)<(l.length:Int) then (20000:Int) else (l.length:Int)).toNat=l:=by rw[hmn];exact List.take_length
 show ∃n,_
 refine⟨0,ALoop.inv (ι:={q:Nat×List Int // q.1<=l.length/\q.2.length=q.1}) (fun q=>⟨[(2,.c (.ptr 0 0 0)),(4,.c (.ptr 1 0 0)),(6,.c (.own 2)),(17,(.c (.d (.sl .pair l)))),(18,.int ((l.length:Int))),(19,.int ((q.1.1:Int)))],[(0,.vars ((runW w (l.take q.1.1)).cells.map .d)),(1,.vars (List.replicate 18 .any)),(2,.data .int q.1.2)],128⟩) (fun q=>l.length-q.1.1) ⟨(0,[]),Nat.zero_le _,rfl⟩ ?_ ?_⟩
 ·exact⟨[(32,0),(64,1)],(by repeat' first|exact .nil|refine .cons _ _ _ ?_ ?_|exact .c _ _ (.ptr _ _ _ _ rfl)|exact .c _ _ (.nilown 2 .int rfl rfl)|exact zyu (k:=.pair) hcut|exact .int_eq hmn|exact .int_eq (congrArg (fun x:List Pair=>(x.length:Int)) hcut)|exact .same|exact .c _ _ (.own _ _ rfl)|exact .c _ _ (.ptr _ _ _ _ rfl)|exact .c _ _ (.frz _ _ rfl)|exact .any _),(by exact .old 0 32 _ _ _ rfl rfl (.vars _ _ (by repeat (first|exact .nil|refine .cons _ _ _ _ (.d _) ?_|refine .cons _ _ _ _ (.frz _ _ rfl) ?_))) (.old 1 64 _ _ _ rfl rfl (.vars _ _ (by repeat (first|exact .nil|refine .cons _ _ _ _ (.any _) ?_))) (.new 2 .int _ rfl .nil))),(by rfl)⟩
 rintro⟨⟨i,es⟩,hi,he⟩
 show ABr (decide ((i:Int)<(l.length:Int))) _ _
 refine⟨fun h=>?_,fun h=>?_⟩
 ·have hlt:i<l.length:=by simpa using h
  have wi:IntKind.i64.wrap ((i:Int)+1)=((i+1:Nat):Int):=zP (i:=i) (by unfold zA;omega)
  show AOb ..
  refine⟨by exact⟨Int.natCast_nonneg _,Int.ofNat_lt.2 hlt⟩,?_⟩
  show ACall ..
  refine za (zdQ (runW w (l.take i)) (l.getD i default) (hF i (Nat.le_of_lt hlt))) rfl ?_
  show AOb (es.length+1<=zi) _
  refine⟨by have:es.length=i:=he;unfold zi;omega,?_⟩
  have hn:=zmr w hlt
  generalize doWE (runW w (l.take i)) (l.getD i default)=x
  rw[←hn]
  have hE:(es++[x]).length=i+1:=by rw[List.length_append,show es.length=i from he];rfl
  show ARound ..
  exact⟨⟨(i+1,es++[x]),hlt,hE⟩,(by dsimp only;omega),[(0,0),(1,1),(736,2)],(by repeat' first|exact .nil|refine .cons _ _ _ ?_ ?_|exact .c _ _ (.ptr _ _ _ _ rfl)|exact .int_eq wi|exact .same|exact .c _ _ (.own _ _ rfl)|exact .c _ _ (.ptr _ _ _ _ rfl)|exact .c _ _ (.frz _ _ rfl)|exact .any _),(by exact .old 0 0 _ _ _ rfl rfl (.vars _ _ (by repeat (first|exact .nil|refine .cons _ _ _ _ (.d _) ?_))) (.old 1 1 _ _ _ rfl rfl (.vars _ _ (by repeat (first|exact .nil|refine .cons _ _ _ _ (.any _) ?_))) (.old 2 736 _ _ _ rfl rfl (.data_eq rfl) .nil))),(by rfl)⟩
 ·have hie:i=l.length:=by simp at h;omega
  have hm:runW w l=runW w (l.take i):=by rw[hie,List.take_length]
  rw[hm]
  generalize runW w (l.take i)=w'
  show ARet ..
  refine⟨[],[],[w'.tv,.any],.cons _ _ _ _ (.agg _ _ ?_) (.cons _ _ _ _ (.any _) .nil),.nil,rfl,rfl,rfl⟩
  repeat (first|exact .nil|refine .cons _ _ _ _ (.d _) ?_)
end Go.Abs
namespace Go.Abs
set_option maxRecDepth 8000
theorem zwP (w:Wd) (e:Pair):(doW w e).t.length=w.t.length:=by
 unfold doW
 split
 ·unfold doW1
  split
  ·unfold stepW
   split
   ·rfl
   ·split
    ·rfl
    ·split<;>exact List.length_set
  ·split
   ·rfl
   ·split
    ·unfold startW;split<;>rfl
    ·split
     ·unfold startW;split<;>rfl
     ·split
      ·unfold beginW
       split
       ·rfl
       ·split
        ·rfl
        ·exact List.length_set
      ·rfl
 ·rfl
def zdt (w:Wd):Nat->Wd
 |0=>w
 |k+1=>doW (zdt w k) ⟨0,(k:Int)⟩
def zhN (w:Wd):Wd:=doW (zdt w w.t.length) ⟨1,0⟩
def roundsW:Nat->Wd->Wd
 |0,w=>w
 |k+1,w=>if w.c.phase≠0 then roundsW k (zhN w) else w
theorem zma (w:Wd):∀k,(zdt w k).t.length=w.t.length
 |0=>rfl
 |k+1=>(zwP _ _).trans (zma w k)
theorem zbL {g:Hp} (hm:zw g []=true) (u:Int):headE g u=if ze g.pages u≠0/\zf g u≠0 then 0 else 3:=by
 by_cases hr:ze g.pages u≠0
 ·have hc:=(zai hm).2.2.1 u (zn.2 hr)
  unfold zah at hc
  rw[Bool.and_eq_true]at hc
  have hu:=zgV hc.1
  unfold headE
  rw[hm,decide_eq_false hr,hu]
  by_cases h0:zf g u=0
  ·rw[if_neg (fun k=>k.2 h0),h0];rfl
  ·rw[if_pos ⟨hr,h0⟩,(bne_iff_ne (a:=zf g u) (b:=0)).2 h0];rfl
 ·rw[if_neg (fun k=>hr k.1)]
  unfold headE
  rw[hm,decide_eq_true (Classical.not_not.1 hr)]
  rfl
theorem zop {g k:Hp} (hg:zw g []=true) (hk:zw k []=true) {u:Int} (h:ze g.pages u≠0->zf g u≠0->ze k.pages u≠0/\zf k u=zf g u)
  (h' : ze k.pages u≠0->zf k u≠0->ze g.pages u≠0/\zf g u≠0):headE k u=headE g u/\headH k u=headH g u:=by
 have e1:=zbL hg u
 have e2:=zbL hk u
 by_cases q:ze g.pages u≠0/\zf g u≠0
 ·obtain⟨h1,h2⟩:=h q.1 q.2
  rw[if_pos q]at e1
  rw[if_pos ⟨h1,by rw[h2];exact q.2⟩]at e2
  exact⟨e2.trans e1.symm,by rw[zas e1,zas e2,h2]⟩
 ·rw[if_neg q]at e1
  rw[if_neg fun k=>q (h' k.1 k.2)]at e2
  exact⟨e2.trans e1.symm,by rw[zbg e1 (by decide),zbg e2 (by decide)]⟩
theorem zfD {g:Hp} {a v u:Int} (hs:zD g=true) (ha:ze g.pages a≠0) (hu:16<=u):zf (zbn g a v) u=if u=a then v else if a<=u/\u<a+ze g.pages a then 0 else zf g u:=by
 obtain⟨_,_,hl,_⟩:=zm hs
 obtain⟨z2,z3,z4⟩:=zaf (zq ha)
 have z2:16<=a:=z2
 have z3:0<ze g.pages a:=z3
 have z4:a+ze g.pages a<=16*((g.pages.length:Int)+1):=z4
 show at0 ((zM g.w (a-16).toNat (List.replicate (ze g.pages a).toNat (0:Int))).set (a-16).toNat v) (u-16).toNat=_
 have hlen:(zM g.w (a-16).toNat (List.replicate (ze g.pages a).toNat (0:Int))).length=g.w.length:=by
  unfold zM;simp;omega
 rw[zkl (by rw[hlen];omega)]
 by_cases e:u=a
 ·rw[if_pos e,if_pos (by rw[e])]
 ·rw[if_neg e,if_neg (by omega)]
  unfold zM zf
  rw[zgM,zgM]
  simp only[List.length_append,List.length_take,List.length_replicate]
  by_cases c1:u<a
  ·rw[if_pos (by omega),if_pos (by omega),if_neg (by omega),ziT _ _ _ (by omega)]
  ·by_cases c2:u<a+ze g.pages a
   ·rw[if_pos (by omega),if_neg (by omega),if_pos ⟨by omega,c2⟩]
    unfold at0
    rw[List.getD_eq_getElem?_getD,List.getElem?_replicate]
    split<;>rfl
   ·rw[if_neg (by omega),if_neg (by omega),zir]
    congr 1
    omega
theorem zjr {g:Hp} {a v:Int} (hs:zD g=true) (ha:ze g.pages a≠0):(zbn g a v).w.length=g.w.length:=by
 obtain⟨_,_,hl,_⟩:=zm hs
 obtain⟨z2,z3,z4⟩:=zaf (zq ha)
 have z2:16<=a:=z2
 have z4:a+ze g.pages a<=16*((g.pages.length:Int)+1):=z4
 unfold zbn zM;simp;omega
theorem zoo {g:Hp} {a v:Int} (hs:zD g=true) (ha:ze g.pages a≠0):zD (zbn g a v)=true:=by
 have hl:=zjr (v:=v) hs ha
 unfold zD zba at hs ⊢
 rw[hl]
 exact hs
theorem zf0 {g:Hp} {a v u f:Int} (hs:zD g=true) (ha:ze g.pages a≠0) (hu:ze g.pages u≠0) (hne:u≠a) (hf:0<=f/\f<ze g.pages u):zf (zbn g a v) (u+f)=zf g (u+f):=by
 have z:=(zaf (zq hu)).1
 have z:16<=u:=z
 have z3:=(zaf (zq ha)).2.1
 have z3:0<ze g.pages a:=z3
 have ap:=zpA ha hu hne hf
 rw[zfD hs ha (by omega),if_neg (by omega),if_neg ap]
theorem zbR {g:Hp} {a v u:Int} (hs:zD g=true) (ha:ze g.pages a≠0) (hu:ze g.pages u≠0):zf (zbn g a v) u=if u=a then v else zf g u:=by
 by_cases e:u=a
 ·rw[if_pos e,zfD hs ha (by have:=(zaf (zq hu)).1;exact this),if_pos e]
 ·rw[if_neg e]
  have:=zf0 (v:=v) hs ha hu e (f:=0) ⟨Int.le_refl _,(zaf (zq hu)).2.1⟩
  rwa [Int.add_zero]at this
theorem zjO {g:Hp} {cs:List Lists} {a:Int} {x:Hd} (hs:zD g=true) (ha:ze g.pages a≠0) (hx:x.May) (hu:x.used=true) (hf:zhq (zQ g a) x.n=true)
  (hl:∀l∈g.free::cs,zS g l=true) (hc:∀u∈cellStarts g.pages,u≠a->zah g u=true/\(zf g u≠0\/u∈flats (g.free::cs))) (hn:(flats (g.free::cs)).Nodup) (hna:a ∉ flats (g.free::cs)) :
  zt (zbn g a x.word) cs=true:=by
 have hm:zw (zbn g a x.word) cs=true:=by
  refine zdD (zoo hs ha) (fun l hll=>zI.2 fun d h0 h2 y hy=>?_) (fun u hu'=>?_) hn
  ·have k:=zI.1 (hl l hll) d h0 h2 y hy
   obtain⟨k1,k2,k3⟩:=(of_decide_eq_true k:0<ze g.pages y/\zQ g y=⟨1,d⟩/\zf g y=0)
   refine decide_eq_true ⟨k1,k2,?_⟩
   rw[zbR hs ha (by omega),if_neg,k3]
   rintro rfl
   exact hna (zcQ.2 ⟨l,hll,zga.2 ⟨d,h0,h2,hy⟩⟩)
  ·have hu' : u∈cellStarts g.pages:=hu'
   have hw:=zbR (v:=x.word) hs ha (zn.1 hu')
   show(zfN (zf (zbn g a x.word) u)&&(bif (unp (zf (zbn g a x.word) u)).used then zhq (zQ g u) (unp (zf (zbn g a x.word) u)).n else decide ((zQ g u).kind=1)))=true
   rw[hw]
   by_cases e:u=a
   ·rw[if_pos e,(zcc hx).1,(zcc hx).2,hu,e]
    exact hf
   ·rw[if_neg e]
    exact(hc u hu' e).1
 unfold zt
 rw[hm,Bool.true_and,List.all_eq_true]
 intro u hu'
 have hu' : u∈cellStarts g.pages:=hu'
 rw[zbR hs ha (zn.1 hu'),Bool.or_eq_true]
 by_cases e:u=a
 ·rw[if_pos e]
  exact .inl (by simpa using zh9 hx hu)
 ·rw[if_neg e]
  rcases (hc u hu' e).2 with k|k
  ·exact .inl (by simpa using k)
  ·exact .inr (List.contains_iff_mem.2 k)
theorem zal {g:Hp} {cs:List Lists} (h:zt g cs=true):zw g cs=true:=by
 unfold zt at h;rw[Bool.and_eq_true]at h;exact h.1
theorem zde {g:Hp} {cs:List Lists} (h:zt g cs=true) {u:Int} (hu:u∈cellStarts g.pages):zf g u≠0\/u∈flats (g.free::cs):=by
 unfold zt at h
 rw[Bool.and_eq_true,List.all_eq_true]at h
 have:=h.2 u hu
 rw[Bool.or_eq_true]at this
 rcases this with k|k
 ·exact .inl (by simpa using k)
 ·exact .inr (List.contains_iff_mem.1 k)
theorem zqO:∀(L w:List Int),(∀a∈L,16<=a/\(a-16).toNat<w.length)->∀u:Int,16<=u->at0 (zcI w L) (u-16).toNat=if u∈L then 0 else at0 w (u-16).toNat
 |[],w,_,u,_=>by rw[if_neg (by simp)];rfl
 |a::r,w,h,u,hu=>by
  obtain⟨a1,a2⟩:=h a (List.mem_cons_self ..)
  unfold zcI
  rw[zqO r _ (fun b hb=>by rw[List.length_set];exact h b (List.mem_cons_of_mem _ hb)) u hu,zkl a2]
  by_cases e:u∈r
  ·rw[if_pos e,if_pos (List.mem_cons_of_mem _ e)]
  ·rw[if_neg e]
   by_cases e2:a=u
   ·subst e2;rw[if_pos rfl,if_pos (List.mem_cons_self ..)]
   ·rw[if_neg (by omega),if_neg (fun k=>(List.mem_cons.1 k).elim (fun q=>e2 q.symm) e)]
theorem zwN {l:Lists} {c:Int} (hc:0<=c/\c<=2) (X:List Int):(l.set_ c (l.at_ c++X)).flat.Perm (X++l.flat):=by
 have:c=0\/c=1\/c=2:=by omega
 rw[List.perm_iff_count]
 intro y
 rcases this with rfl|rfl|rfl
 ·show List.count y ((l.l0++X)++l.l1++l.l2)=List.count y (X++(l.l0++l.l1++l.l2))
  simp only[List.count_append];omega
 ·show List.count y (l.l0++(l.l1++X)++l.l2)=List.count y (X++(l.l0++l.l1++l.l2))
  simp only[List.count_append];omega
 ·show List.count y (l.l0++l.l1++(l.l2++X))=List.count y (X++(l.l0++l.l1++l.l2))
  simp only[List.count_append];omega
structure Objs (g k:Hp):Prop where
 headE:∀u,Abs.headE k u=Abs.headE g u
 headH:∀u,Abs.headH k u=Abs.headH g u
 word:∀u,Abs.headE g u=0->∀f,0<=f->f<ze g.pages u->zf k (u+f)=zf g (u+f)
 room:∀u,Abs.headE g u=0->ze k.pages u=ze g.pages u
 cards:k.cards=g.cards
 plen:k.pages.length=g.pages.length
theorem Objs.refl (g:Hp):Objs g g:=⟨fun _=>rfl,fun _=>rfl,fun _ _ _ _ _=>rfl,fun _ _=>rfl,rfl,rfl⟩
theorem zs7 {l:List Page} {i n:Nat} (h:zaq l n i=true) {u:Int} (hu:ze l u≠0):¬((i:Int)<=u / 16-1/\u / 16-1<(i:Int)+n):=by
 rintro⟨h1,h2⟩
 obtain⟨_,j,hj⟩:=zac (zq hu)
 have e:u / 16-1=(j:Int):=hj.div
 obtain⟨_,hz⟩:=zay.1 h
 have:=hz (j-i) (by omega)
 rw[show i+(j-i)=j by omega]at this
 rcases hj.kind with k|k
 ·have:=k.1;omega
 ·have:=k.1;omega
theorem zlQ {g:Hp} {cs:List Lists} {k:Int} (hw:zt g cs=true) (hk:0<=k/\k<=2):zt (zN g k) cs=true/\Objs g (zN g k):=by
 have hm:=zal hw
 obtain⟨m1,m2,m3,m4⟩:=zai hm
 obtain⟨s1,s2,s3,s4,s5,s6⟩:=zm m1
 cases hf:za6 g.pages 1 with
 |none=>rw[(zaY hf k).1];exact⟨hw,.refl g⟩
 |some i=>
  obtain⟨hfr,hil⟩:=zbO hf
  rw[(zaZ hf k).1]
  obtain⟨P,hP⟩:∃P,P=zbA g.pages i [⟨1,k⟩]:=⟨_,rfl⟩
  have hp' : zao P=true:=by rw[hP];exact zjh s2 hfr hk
  have hlen' : P.length=g.pages.length:=by rw[hP];exact zeh rfl hfr
  have hcells:∀x,x∈cellsAll P↔x∈cellsAll g.pages\/∃j,i<=j/\j<i+1/\x∈zH (([⟨1,k⟩]:List Page).getD (j-i) default) (16*((j:Int)+1)):=fun x=>by
   rw[hP];exact zjp (n:=1) (X:=[⟨1,k⟩]) s2 rfl hfr (by rw[←hP];exact hp')
  have hget:∀j,P.getD j default=if i<=j/\j<i+1 then ([⟨1,k⟩]:List Page).getD (j-i) default else g.pages.getD j default:=fun j=>by
   rw[hP];exact ziL (n:=1) (X:=[⟨1,k⟩]) rfl hfr j
  have hgi:P.getD i default=⟨1,k⟩:=by
   rw[hget,if_pos ⟨Nat.le_refl _,by omega⟩,Nat.sub_self];rfl
  rw[←hP]
  have hpi:zbu (P.getD i default):=(zag hp').1 i (by rw[hlen'];exact hil)
  obtain⟨N,hN⟩:∃N,startsOn P i=N:=⟨_,rfl⟩
  rw[hN]
  have hNin:∀a∈N,16*((i:Int)+1)<=a/\a<16*((i:Int)+1)+16:=fun a ha=>zkc hpi (hN▸ha)
  have hNr:∀a∈N,ze P a≠0:=fun a ha=>zj1 hp' (by omega) (hN▸ha)
  have hst:∀u,u∈cellStarts P↔u∈cellStarts g.pages\/u∈N:=by
   intro u
   unfold cellStarts
   rw[List.mem_map,List.mem_map]
   constructor
   ·rintro⟨x,hx,rfl⟩
    rcases (hcells x).1 hx with h|⟨j,j1,j2,hx⟩
    ·exact .inl ⟨x,h,rfl⟩
    ·have:j=i:=by omega
     subst this
     refine .inr ?_
     rw[←hN]
     unfold startsOn
     rw[hgi]
     rw[Nat.sub_self]at hx
     exact List.mem_map.2 ⟨x,hx,rfl⟩
   ·rintro (⟨x,hx,rfl⟩|h)
    ·exact⟨x,(hcells x).2 (.inl hx),rfl⟩
    ·rw[←hN]at h
     unfold startsOn at h
     rw[hgi]at h
     obtain⟨x,hx,rfl⟩:=List.mem_map.1 h
     exact⟨x,(hcells x).2 (.inr ⟨i,Nat.le_refl _,by omega,by rw[Nat.sub_self];exact hx⟩),rfl⟩
  have hold:∀u,ze g.pages u≠0->u / 16-1≠(i:Int):=fun u hu e=>zs7 hfr hu ⟨by omega,by omega⟩
  have hroom:∀u,ze g.pages u≠0->ze P u=ze g.pages u:=fun u hu=>zby (x:=(u,ze g.pages u)) ((hcells _).2 (.inl (zq hu)))
  have holdN:∀u,ze g.pages u≠0->u ∉ N:=fun u hu h=>by have:=hNin u h;have:=hold u hu;omega
  have hwl:∀a∈N.reverse,16<=a/\(a-16).toNat<g.w.length:=fun a ha=>by have:=hNin a (List.mem_reverse.1 ha);omega
  have hpage:∀u,ze g.pages u≠0->P.getD (u / 16-1).toNat default=g.pages.getD (u / 16-1).toNat default:=fun u hu=>by
   rw[hget,if_neg]
   have:=hold u hu
   have:=(zaf (zq hu)).1
   have:16<=u:=this
   omega
  have hpageN:∀u∈N,P.getD (u / 16-1).toNat default=⟨1,k⟩:=fun u hu=>by
   have:=hNin u hu
   rw[show(u / 16-1).toNat=i by omega];exact hgi
  obtain⟨K,hK⟩:∃K:Hp,K=⟨zcI g.w N.reverse,P,g.free.set_ k (g.free.at_ k++N.reverse),g.cards⟩:=⟨_,rfl⟩
  rw[←hK]
  have hword:∀u,16<=u->zf K u=if u∈N then 0 else zf g u:=by
   intro u hu
   rw[hK]
   show at0 (zcI g.w N.reverse) (u-16).toNat=_
   rw[zqO _ _ hwl u hu]
   simp only[List.mem_reverse]
   rfl
  have hw0:∀u,ze g.pages u≠0->zf K u=zf g u:=fun u hu=>by
   rw[hword u (by have:=(zaf (zq hu)).1;exact this),if_neg (holdN u hu)]
  have hwf:∀u,ze g.pages u≠0->∀f,0<=f->f<ze g.pages u->zf K (u+f)=zf g (u+f):=by
   intro u hu f f0 f1
   have z:=(zaf (zq hu)).1
   have z:16<=u:=z
   rw[hword _ (by omega),if_neg]
   intro hin
   have h1:(u,ze P u)∈cellsAll P:=zq (by rw[hroom u hu];exact hu)
   have h2:(u+f,ze P (u+f))∈cellsAll P:=zq (hNr _ hin)
   have hpos:=(zaf h2).2.1
   have hpos:0<ze P (u+f):=hpos
   have:=zlC h1 h2 (p:=u+f) ⟨by show u<=u+f;omega,by show u+f<u+ze P u;rw[hroom u hu];omega⟩ ⟨by show u+f<=u+f;omega,by show u+f<u+f+_;omega⟩
   have e:u=u+f:=congrArg Prod.fst this
   rw[←e]at hin
   exact holdN u hu hin
  have hperm:(flats (K.free::cs)).Perm (N.reverse++flats (g.free::cs)):=by
   rw[hK]
   show((g.free.set_ k (g.free.at_ k++N.reverse)).flat++flats cs).Perm (N.reverse++(g.free.flat++flats cs))
   rw[←List.append_assoc]
   exact(zwN hk _).append_right _
  have hNn:N.Nodup:=by
   have hs:=zc3 P
   have hsub:N.Sublist (cellStarts P):=by
    rw[←hN]
    unfold startsOn cellStarts
    refine List.Sublist.map _ ?_
    unfold cellsAll
    rw[if_pos hp']
    unfold zZ
    rw[List.drop_zero]
    rw[show List.range P.length=List.range i++(List.range (P.length-i)).map (i+·) from by
     rw[←List.range_add];congr 1;omega]
    rw[List.flatMap_append]
    refine List.Sublist.trans ?_ (List.sublist_append_right _ _)
    rw[show P.length-i=(P.length-i-1)+1 by omega,List.range_succ_eq_map,List.map_cons,List.flatMap_cons]
    exact List.sublist_append_left _ _
   exact(hs.sublist hsub).imp (fun h=>by omega)
  have hmem:∀y∈flats (g.free::cs),ze g.pages y≠0:=by
   intro y hy
   obtain⟨l,hl,hy⟩:=zcQ.1 hy
   have:=(zdj (m2 l hl) hy).1
   omega
  have hnd:(flats (K.free::cs)).Nodup:=by
   rw[hperm.nodup_iff,List.nodup_append]
   refine⟨(List.reverse_perm N).nodup_iff.2 hNn,m4,fun y hy z hz e=>?_⟩
   subst e
   exact holdN y (hmem y hz) (List.mem_reverse.1 hy)
  have hfree:∀d y,zL g d y=true->zL K d y=true:=by
   intro d y h
   obtain⟨h1,h2,h3⟩:=(of_decide_eq_true h:0<ze g.pages y/\zQ g y=⟨1,d⟩/\zf g y=0)
   have hr:ze g.pages y≠0:=by omega
   have hp:=hpage y hr
   refine decide_eq_true ⟨?_,?_,by rw[hw0 y hr];exact h3⟩
   ·show 0<ze K.pages y
    rw[hK];show 0<ze P y;rw[hroom y hr];exact h1
   ·rw[hK];show P.getD (y / 16-1).toNat default=_;rw[hp];exact h2
  have hfreeN:∀y∈N,zL K k y=true:=by
   intro y hy
   have:=hNin y hy
   have hr:=hNr y hy
   have hps:=(zaf (zq hr)).2.1
   refine decide_eq_true ⟨?_,?_,by rw[hword y (by omega),if_pos hy]⟩
   ·rw[hK];exact hps
   ·rw[hK];exact hpageN y hy
  have hKm:zw K cs=true:=by
   refine zdD ?_ (fun l hl=>zI.2 fun d d0 d2 y hy=>?_) (fun u hu=>?_) hnd
   ·rw[hK]
    unfold zD zba
    show(decide ((zcI g.w N.reverse).length % 16=0/\_)&&_)=true
    simp only[zdS,hlen',hp']
    rw[Bool.true_and]
    unfold zba at s1
    rw[s1,decide_eq_true ⟨s3,s4⟩]
    rfl
   ·rcases List.mem_cons.1 hl with rfl|hl
    ·have hy' : y∈(g.free.set_ k (g.free.at_ k++N.reverse)).at_ d:=by rw[hK]at hy;exact hy
     rw[zf1 hk ⟨d0,d2⟩]at hy'
     by_cases e:d=k
     ·rw[if_pos e]at hy'
      rcases List.mem_append.1 hy' with h|h
      ·rw[e];exact hfree k y (zI.1 (m2 g.free (List.mem_cons_self ..)) k hk.1 hk.2 y h)
      ·rw[e];exact hfreeN y (List.mem_reverse.1 h)
     ·rw[if_neg e]at hy'
      exact hfree d y (zI.1 (m2 g.free (List.mem_cons_self ..)) d d0 d2 y hy')
    ·exact hfree d y (zI.1 (m2 l (List.mem_cons_of_mem _ hl)) d d0 d2 y hy)
   ·have hu:u∈cellStarts P:=by rw[hK]at hu;exact hu
    have hpg:zQ K u=P.getD (u / 16-1).toNat default:=by rw[hK];rfl
    unfold zah
    rw[hpg]
    rcases (hst u).1 hu with h|h
    ·have hr:=zn.1 h
     rw[hw0 u hr,hpage u hr]
     exact m3 u h
    ·have:=hNin u h
     rw[hword u (by omega),if_pos h,hpageN u h]
     rfl
  have hKw:zt K cs=true:=by
   unfold zt
   rw[hKm,Bool.true_and,List.all_eq_true]
   intro u hu
   have hu:u∈cellStarts P:=by rw[hK]at hu;exact hu
   rw[Bool.or_eq_true]
   rcases (hst u).1 hu with h|h
   ·rcases zde hw h with q|q
    ·exact .inl (by rw[hw0 u (zn.1 h)];simpa using q)
    ·exact .inr (List.contains_iff_mem.2 (hperm.mem_iff.2 (List.mem_append_right _ q)))
   ·exact .inr (List.contains_iff_mem.2 (hperm.mem_iff.2 (List.mem_append_left _ (List.mem_reverse.2 h))))
  have hroomK:∀u,ze g.pages u≠0->ze K.pages u=ze g.pages u:=fun u hu=>by rw[hK];exact hroom u hu
  have hh:∀u,headE K u=headE g u/\headH K u=headH g u:=fun u=>zop (zbr hm) (zbr hKm)
   (fun h1 h2=>⟨by rw[hroomK u h1];exact h1,hw0 u h1⟩) (fun h1 h2=>by
    have h1:ze P u≠0:=by rw[hK]at h1;exact h1
    rcases (hst u).1 (zn.2 h1) with h|h
    ·have hr:=zn.1 h
     exact⟨hr,by rw[←hw0 u hr];exact h2⟩
    ·have:=hNin u h
     rw[hword u (by omega),if_pos h]at h2
     exact absurd rfl h2)
  refine⟨hKw,fun u=>(hh u).1,fun u=>(hh u).2,fun u hu f f0 f1=>hwf u (zG hu).2.1 f f0 f1,fun u hu=>hroomK u (zG hu).2.1,by rw[hK],?_⟩
  rw[hK];exact hlen'
structure Took (g k:Hp) (a:Int) (x:Hd):Prop where
 used:Abs.headE g a≠0
 self:Abs.headE k a=0/\Abs.headH k a=x
 head:∀u,u≠a->Abs.headE k u=Abs.headE g u/\Abs.headH k u=Abs.headH g u
 word:∀u,Abs.headE g u=0->∀f,0<=f->f<ze g.pages u->zf k (u+f)=zf g (u+f)
 room:∀u,Abs.headE g u=0->ze k.pages u=ze g.pages u
 zero:∀f,1<=f->f<ze k.pages a->zf k (a+f)=0
 cards:k.cards=g.cards
 plen:k.pages.length=g.pages.length
 wlen:k.w.length=g.w.length
theorem Took.pre {g m k:Hp} {a:Int} {x:Hd} (h:Objs g m) (hl:m.w.length=g.w.length) (t:Took m k a x):Took g k a x:=
 ⟨by rw[←h.headE];exact t.used,t.self,fun u hu=>by rw[←h.headE,←h.headH];exact t.head u hu,
  fun u hu f f0 f1=>(t.word u (by rw[h.headE];exact hu) f f0 (by rw[h.room u hu];exact f1)).trans (h.word u hu f f0 f1),
  fun u hu=>(t.room u (by rw[h.headE];exact hu)).trans (h.room u hu),t.zero,t.cards.trans h.cards,t.plen.trans h.plen,t.wlen.trans hl⟩
theorem zmz {g:Hp} {C F' C' : Lists} {cs:List Lists} {a k:Int} {x:Hd} (hw:zt g (C::cs)=true) (hk:0<=k/\k<=2) (ha:zL g k a=true) (hx:x.May) (hu:x.used=true) (hn:zap x.n=0/\zC x.n=k)
  (hF:∀d:Int,0<=d->d<=2->∀y∈F'.at_ d,y∈g.free.at_ d\/y∈C.at_ d) (hC:∀d:Int,0<=d->d<=2->∀y∈C'.at_ d,y∈g.free.at_ d\/y∈C.at_ d)
  (hp:(a::flats (F'::C'::cs)).Perm (flats (g.free::C::cs))) :
  zt (zbn {g with free:=F'} a x.word) (C'::cs)=true/\Took g (zbn {g with free:=F'} a x.word) a x:=by
 have hm:=zal hw
 obtain⟨m1,m2,m3,m4⟩:=zai hm
 obtain⟨a1,a2,a3⟩:=(of_decide_eq_true ha:0<ze g.pages a/\zQ g a=⟨1,k⟩/\zf g a=0)
 have har:ze g.pages a≠0:=by omega
 obtain⟨G,hG⟩:∃G:Hp,G={g with free:=F'}:=⟨_,rfl⟩
 rw[←hG]
 have gp:G.pages=g.pages:=by rw[hG]
 have gw:∀u,zf G u=zf g u:=fun u=>by rw[hG];rfl
 have gpa:∀u,zQ G u=zQ g u:=fun u=>by rw[hG];rfl
 have gs:zD G=true:=by rw[hG];exact m1
 have gr:ze G.pages a≠0:=by rw[gp];exact har
 have gf:G.free=F':=by rw[hG]
 have gfree:∀d y,zL G d y=zL g d y:=fun d y=>by rw[hG];rfl
 have gcell:∀u,zah G u=zah g u:=fun u=>by rw[hG];rfl
 have hnd:=(hp.nodup_iff).2 m4
 rw[List.nodup_cons]at hnd
 have hlist:∀l:Lists,(∀d:Int,0<=d->d<=2->∀y∈l.at_ d,y∈g.free.at_ d\/y∈C.at_ d)->zS G l=true:=fun l h=>
  zI.2 fun d d0 d2 y hy=>by
   rw[gfree]
   rcases h d d0 d2 y hy with q|q
   ·exact zI.1 (m2 g.free (List.mem_cons_self ..)) d d0 d2 y q
   ·exact zI.1 (m2 C (List.mem_cons_of_mem _ (List.mem_cons_self ..))) d d0 d2 y q
 have hwk:zt (zbn G a x.word) (C'::cs)=true:=by
  refine zjO gs gr hx hu ?_ (fun l hl=>?_) (fun u hu' hne=>?_) (by rw[gf];exact hnd.2) (by rw[gf];exact hnd.1)
  ·rw[gpa,a2]
   unfold zhq
   rw[decide_eq_false (show ¬(1:Int)=2 by decide)]
   exact decide_eq_true hn
  ·rw[gf]at hl
   rcases List.mem_cons.1 hl with rfl|hl
   ·exact hlist _ hF
   ·rcases List.mem_cons.1 hl with rfl|hl
    ·exact hlist _ hC
    ·have:=m2 l (List.mem_cons_of_mem _ (List.mem_cons_of_mem _ hl))
     rw[hG];exact this
  ·rw[gp]at hu'
   rw[gcell,gw,gf]
   refine⟨m3 u hu',?_⟩
   rcases zde hw hu' with q|q
   ·exact .inl q
   ·rcases List.mem_cons.1 (hp.mem_iff.2 q) with q|q
    ·exact absurd q hne
    ·exact .inr q
 refine⟨hwk,?_⟩
 have hkm:=zbr (zal hwk)
 have hgm:=zbr hm
 have hself:headE (zbn G a x.word) a=0:=by
  rw[zbL hkm]
  have e:=zbR (v:=x.word) gs gr gr
  rw[if_pos rfl]at e
  rw[if_pos ⟨gr,by rw[e];exact zh9 hx hu⟩]
 refine⟨?_,⟨hself,?_⟩,fun u hne=>?_,fun u hu' f f0 f1=>?_,fun u hu'=>by show ze G.pages u=_;rw[gp],fun f f1 f2=>?_,by rw[hG];rfl,by rw[hG];rfl,?_⟩
 ·rw[zbL hgm,if_neg (fun q=>q.2 a3)];decide
 ·have e:=zbR (v:=x.word) gs gr gr
  rw[if_pos rfl]at e
  rw[zas hself,e,(zcc hx).1]
 ·refine zop hgm hkm (fun h1 h2=>?_) (fun h1 h2=>?_)
  ·rw[zbR gs gr (by rw[gp];exact h1),if_neg hne,gw]
   exact⟨by show ze G.pages u≠0;rw[gp];exact h1,rfl⟩
  ·have h1:ze G.pages u≠0:=h1
   rw[zbR gs gr h1,if_neg hne,gw]at h2
   exact⟨by rw[←gp];exact h1,h2⟩
 ·have hr:=(zG hu').2.1
  have hne:u≠a:=fun e=>by rw[e]at hu';exact zgS hm hu' a3
  rw[zf0 gs gr (by rw[gp];exact hr) hne ⟨f0,by rw[gp];exact f1⟩,gw]
 ·have f2:f<ze G.pages a:=f2
  have z:=(zaf (zq gr)).1
  have z:16<=a:=z
  rw[zfD gs gr (by omega),if_neg (by omega),if_pos ⟨by omega,by omega⟩]
 ·rw[zjr gs gr,hG]
theorem zrk {g:Hp} {cs:List Lists} {x:Hd} (hw:zt g cs=true) (hx:x.May) (hu:x.used=true) (hn:zap x.n=0/\zC x.n=3) (he:zcl g x.n=0) :
  zt (zbn (zaO g x.n) (zaV g x.n) x.word) cs=true/\Took g (zbn (zaO g x.n) (zaV g x.n) x.word) (zaV g x.n) x:=by
 have hm:=zal hw
 obtain⟨m1,m2,m3,m4⟩:=zai hm
 obtain⟨s1,s2,s3,s4,s5,s6⟩:=zm m1
 obtain⟨_,_,_,_,c5⟩:=znR hn.1
 obtain⟨r1,r2,r3⟩:=c5 hn.2
 obtain⟨m,em⟩:∃m:Nat,zaD x.n=(m:Int):=⟨(zaD x.n).toNat,by omega⟩
 cases hf:zef g x.n with
 |none=>rw[(zh7 hf).2.2]at he;cases he
 |some i=>
  obtain⟨e1,e2,_⟩:=zhY hf
  unfold zef at hf
  rw[em]at hf e1
  have hf:za6 g.pages m=some i:=hf
  obtain⟨hfr,hil⟩:=zbO hf
  have hXl:((⟨2,(m:Int)⟩:Page)::List.replicate (m-1) ⟨3,0⟩).length=m:=by simp;omega
  rw[e1,e2]
  obtain⟨Y,hY⟩:∃Y:List Page,Y=⟨2,(m:Int)⟩::List.replicate (m-1) ⟨3,0⟩:=⟨_,rfl⟩
  have hYl:Y.length=m:=by rw[hY];exact hXl
  show zt (zbn {g with pages:=zbA g.pages i (⟨2,(m:Int)⟩::List.replicate (m-1) ⟨3,0⟩)} (16*((i:Int)+1)) x.word) cs=true/\Took g (zbn {g with pages:=zbA g.pages i (⟨2,(m:Int)⟩::List.replicate (m-1) ⟨3,0⟩)} (16*((i:Int)+1)) x.word) (16*((i:Int)+1)) x
  obtain⟨P,hP⟩:∃P,P=zbA g.pages i Y:=⟨_,rfl⟩
  rw[←hY,←hP]
  have hp' : zao P=true:=by rw[hP,hY];exact zmV s2 hfr (by omega) (by omega)
  have hlen' : P.length=g.pages.length:=by rw[hP];exact zeh hYl hfr
  have hcells:∀y,y∈cellsAll P↔y∈cellsAll g.pages\/∃j,i<=j/\j<i+m/\y∈zH (Y.getD (j-i) default) (16*((j:Int)+1)):=fun y=>by
   rw[hP];exact zjp s2 hYl hfr (by rw[←hP];exact hp')
  have hget:∀j,P.getD j default=if i<=j/\j<i+m then Y.getD (j-i) default else g.pages.getD j default:=fun j=>by
   rw[hP];exact ziL hYl hfr j
  have hgi:P.getD i default=⟨2,m⟩:=by
   rw[hget,if_pos ⟨Nat.le_refl _,by omega⟩,Nat.sub_self,hY];rfl
  have hnew:∀y:Int×Int,(∃j,i<=j/\j<i+m/\y∈zH (Y.getD (j-i) default) (16*((j:Int)+1)))↔y=(16*((i:Int)+1),(m:Int)*16):=by
   intro y
   rw[hY]
   constructor
   ·rintro⟨j,j1,j2,hy⟩
    by_cases e:j=i
    ·subst e
     rw[Nat.sub_self]at hy
     have hy:y∈zH ⟨2,(m:Int)⟩ (16*((j:Int)+1)):=hy
     unfold zH at hy
     rw[if_pos rfl]at hy
     exact List.mem_singleton.1 hy
    ·rw[show j-i=(j-i-1)+1 by omega,List.getD_cons_succ,List.getD_eq_getElem?_getD,List.getElem?_replicate,if_pos (by omega)]at hy
     have hy:y∈zH ⟨3,0⟩ (16*((j:Int)+1)):=hy
     unfold zH at hy
     rw[if_neg (show ¬(3:Int)=2 by decide),if_neg (show ¬(3:Int)=1 by decide)]at hy
     cases hy
   ·rintro rfl
    refine⟨i,Nat.le_refl _,by omega,?_⟩
    rw[Nat.sub_self]
    show _∈zH ⟨2,(m:Int)⟩ _
    unfold zH
    rw[if_pos rfl]
    exact List.mem_singleton_self _
  obtain⟨a,ha⟩:∃a:Int,a=16*((i:Int)+1):=⟨_,rfl⟩
  rw[←ha]
  rw[←ha]at hnew
  have har:ze P a=m*16:=zby (x:=(a,(m:Int)*16)) ((hcells _).2 (.inr ((hnew _).2 rfl)))
  have har0:ze P a≠0:=by rw[har];omega
  have hst:∀u,ze P u≠0->u≠a->ze g.pages u≠0:=fun u hu' hne=>by
   rcases (hcells _).1 (zq hu') with q|q
   ·exact zn.1 (List.mem_map.2 ⟨_,q,rfl⟩)
   ·exact absurd (congrArg Prod.fst ((hnew _).1 q)) hne
  have hroom:∀u,ze g.pages u≠0->ze P u=ze g.pages u:=fun u hu'=>zby (x:=(u,ze g.pages u)) ((hcells _).2 (.inl (zq hu')))
  have hold:∀u,ze g.pages u≠0->¬((i:Int)<=u / 16-1/\u / 16-1<(i:Int)+m):=fun u hu'=>zs7 hfr hu'
  have hna:∀u,ze g.pages u≠0->u≠a:=fun u hu' e=>hold u hu' ⟨by omega,by omega⟩
  have har1:ze g.pages a=0:=Classical.byContradiction fun q=>hna a q rfl
  have hpage:∀u,ze g.pages u≠0->P.getD (u / 16-1).toNat default=g.pages.getD (u / 16-1).toNat default:=fun u hu'=>by
   have:=hold u hu'
   have:=(zaf (zq hu')).1
   have:16<=u:=this
   rw[hget,if_neg (by omega)]
  obtain⟨G,hG⟩:∃G:Hp,G={g with pages:=P}:=⟨_,rfl⟩
  rw[←hG]
  have gp:G.pages=P:=by rw[hG]
  have gw:∀u,zf G u=zf g u:=fun u=>by rw[hG];rfl
  have gpa:∀u,ze g.pages u≠0->zQ G u=zQ g u:=fun u hu'=>by
   unfold zQ;rw[gp];exact hpage u hu'
  have gf:G.free=g.free:=by rw[hG]
  have gs:zD G=true:=by
   rw[hG]
   unfold zD
   show(zba g.w&&(zao P&&decide (g.w.length=16*P.length/\g.cards.length=2*P.length)))=true
   rw[s1,hp',hlen',decide_eq_true ⟨s3,s4⟩];rfl
  have gr:ze G.pages a≠0:=by rw[gp];exact har0
  have hfree:∀d y,zL g d y=true->zL G d y=true:=fun d y h=>by
   obtain⟨h1,h2,h3⟩:=(of_decide_eq_true h:0<ze g.pages y/\zQ g y=⟨1,d⟩/\zf g y=0)
   have hr:ze g.pages y≠0:=by omega
   exact decide_eq_true ⟨by rw[gp,hroom y hr];exact h1,by rw[gpa y hr];exact h2,by rw[gw];exact h3⟩
  have hmem:∀y∈flats (g.free::cs),ze g.pages y≠0:=by
   intro y hy
   obtain⟨l,hl,hy⟩:=zcQ.1 hy
   have:=(zdj (m2 l hl) hy).1
   omega
  have hwk:zt (zbn G a x.word) cs=true:=by
   refine zjO gs gr hx hu ?_ (fun l hl=>zI.2 fun d d0 d2 y hy=>hfree d y ?_) (fun u hu' hne=>?_) (by rw[gf];exact m4) (by rw[gf];exact fun q=>hna a (hmem a q) rfl)
   ·have:zQ G a=⟨2,m⟩:=by
     unfold zQ
     rw[gp,show(a / 16-1).toNat=i by omega];exact hgi
    rw[this]
    unfold zhq
    rw[decide_eq_true rfl]
    exact decide_eq_true ⟨r3,em⟩
   ·rw[gf]at hl
    exact zI.1 (m2 l hl) d d0 d2 y hy
   ·rw[gp]at hu'
    have hr:=hst u (zn.1 hu') hne
    have hs:=zn.2 hr
    refine⟨?_,?_⟩
    ·have:=m3 u hs
     unfold zah at this ⊢
     rw[gw,gpa u hr]
     exact this
    ·rw[gw,gf]
     exact zde hw hs
  refine⟨hwk,?_⟩
  have hkm:=zbr (zal hwk)
  have hgm:=zbr hm
  have hself:headE (zbn G a x.word) a=0:=by
   rw[zbL hkm]
   have e:=zbR (v:=x.word) gs gr gr
   rw[if_pos rfl]at e
   rw[if_pos ⟨gr,by rw[e];exact zh9 hx hu⟩]
  refine⟨?_,⟨hself,?_⟩,fun u hne=>?_,fun u hu' f f0 f1=>?_,fun u hu'=>?_,fun f f1 f2=>?_,by rw[hG];rfl,?_,?_⟩
  ·rw[zbL hgm,if_neg (fun q=>q.1 har1)];decide
  ·have e:=zbR (v:=x.word) gs gr gr
   rw[if_pos rfl]at e
   rw[zas hself,e,(zcc hx).1]
  ·refine zop hgm hkm (fun h1 h2=>?_) (fun h1 h2=>?_)
   ·have h1' : ze G.pages u≠0:=by rw[gp,hroom u h1];exact h1
    rw[zbR gs gr h1',if_neg hne,gw]
    exact⟨h1',rfl⟩
   ·have h1:ze G.pages u≠0:=h1
    rw[zbR gs gr h1,if_neg hne,gw]at h2
    exact⟨hst u (by rw[←gp];exact h1) hne,h2⟩
  ·have hr:=(zG hu').2.1
   rw[zf0 gs gr (by rw[gp,hroom u hr];exact hr) (hna u hr) ⟨f0,by rw[gp,hroom u hr];exact f1⟩,gw]
  ·show ze G.pages u=_
   rw[gp];exact hroom u (zG hu').2.1
  ·have f2:f<ze G.pages a:=f2
   have z:=(zaf (zq gr)).1
   have z:16<=a:=z
   rw[zfD gs gr (by omega),if_neg (by omega),if_pos ⟨by omega,by omega⟩]
  ·show G.pages.length=_
   rw[gp];exact hlen'
  ·rw[zjr gs gr,hG]
theorem zhS {l:Lists} {k:Int} (hk:0<=k/\k<=2) (x:List Int) (y:Int):List.count y (l.set_ k x).flat+List.count y (l.at_ k)=List.count y l.flat+List.count y x:=by
 have:k=0\/k=1\/k=2:=by omega
 rcases this with rfl|rfl|rfl
 ·show List.count y (x++l.l1++l.l2)+List.count y l.l0=List.count y (l.l0++l.l1++l.l2)+List.count y x
  simp only[List.count_append];omega
 ·show List.count y (l.l0++x++l.l2)+List.count y l.l1=List.count y (l.l0++l.l1++l.l2)+List.count y x
  simp only[List.count_append];omega
 ·show List.count y (l.l0++l.l1++x)+List.count y l.l2=List.count y (l.l0++l.l1++l.l2)+List.count y x
  simp only[List.count_append];omega
theorem zvl {l:List Int} (h:0<l.length):l=l.take (l.length-1)++[at0 l (l.length-1)]:=by
 conv=>lhs;rw[←List.take_append_drop (l.length-1) l]
 congr 1
 rw[zch (by omega),List.drop_eq_getElem_cons (by omega),List.drop_eq_nil_of_le (by omega)]
theorem zra {g:Hp} {C:Lists} {cs:List Lists} {k:Int} {x:Hd} (hw:zt g (C::cs)=true) (hk:0<=k/\k<=2) (hx:x.May) (hu:x.used=true) (hn:zap x.n=0/\zC x.n=k) (he:zV g C k=0) :
  zt (zbn (zW g C k) (zam g C k) x.word) (zb4 g C k::cs)=true/\Took g (zbn (zW g C k) (zam g C k) x.word) (zam g C k) x:=by
 have hpos:=zcJ hk he
 have hcat:=zvl hpos
 have eA:zam g C k=at0 (zcA g C k) ((zcA g C k).length-1):=by unfold zam;rw[if_pos he]
 have eC:zb4 g C k=C.set_ k ((zcA g C k).take ((zcA g C k).length-1)):=by unfold zb4;rw[if_pos he]
 rw[eA,eC]
 generalize at0 (zcA g C k) ((zcA g C k).length-1)=a at *
 generalize (zcA g C k).take ((zcA g C k).length-1)=T at *
 by_cases h1:C.at_ k=[]
 ·
  have hR:zt (refG g C k) (C::cs)=true/\Objs g (refG g C k)/\(refG g C k).w.length=g.w.length:=by
   unfold refG
   split
   ·refine⟨(zlQ hw hk).1,(zlQ hw hk).2,?_⟩
    cases hf:za6 g.pages 1 with
    |none=>rw[(zaY hf k).1]
    |some i=>rw[(zaZ hf k).1];exact zdS _ _
   ·exact⟨hw,.refl g,rfl⟩
  have eG:zW g C k={refG g C k with free:=(refG g C k).free.set_ k (((refG g C k).free.at_ k).take (leftOf ((refG g C k).free.at_ k).length 2))}:=by
   unfold zW zjM
   rw[if_pos he,if_pos h1,if_pos h1]
  have eL:zcA g C k=(((refG g C k).free.at_ k).drop (leftOf ((refG g C k).free.at_ k).length 2)).reverse:=by unfold zcA;rw[if_pos h1]
  rw[eG]
  rw[eL]at hcat
  generalize refG g C k=G at *
  obtain⟨w1,w2,w3⟩:=hR
  generalize leftOf (G.free.at_ k).length 2=n at *
  have hmem:∀y,y∈T\/y=a->y∈G.free.at_ k:=fun y hy=>by
   have:y∈(List.drop n (G.free.at_ k)).reverse:=by
    rw[hcat]
    rcases hy with q|q
    ·exact List.mem_append_left _ q
    ·exact List.mem_append_right _ (List.mem_singleton.2 q)
   exact List.mem_of_mem_drop (List.mem_reverse.1 this)
  have ha:zL G k a=true:=zI.1 ((zai (zal w1)).2.1 G.free (List.mem_cons_self ..)) k hk.1 hk.2 a (hmem a (.inr rfl))
  refine(fun t:_/\_=>⟨t.1,t.2.pre w2 w3⟩) (zmz (F':=G.free.set_ k (List.take n (G.free.at_ k))) (C':=C.set_ k T) w1 hk ha hx hu hn (fun d d0 d2 y hy=>?_) (fun d d0 d2 y hy=>?_) ?_)
  ·rw[zf1 hk ⟨d0,d2⟩]at hy
   by_cases e:d=k
   ·rw[if_pos e]at hy;rw[e];exact .inl (List.mem_of_mem_take hy)
   ·rw[if_neg e]at hy;exact .inl hy
  ·rw[zf1 hk ⟨d0,d2⟩]at hy
   by_cases e:d=k
   ·rw[if_pos e]at hy;rw[e];exact .inl (hmem y (.inl hy))
   ·rw[if_neg e]at hy;exact .inr hy
  ·rw[List.perm_iff_count]
   intro y
   have c1:=zhS (l:=G.free) hk (List.take n (G.free.at_ k)) y
   have c2:=zhS (l:=C) hk T y
   rw[h1]at c2
   have c3:List.count y (List.drop n (G.free.at_ k))=List.count y (T++[a]):=by rw[←hcat,List.count_reverse]
   have c4:List.count y (G.free.at_ k)=List.count y (List.take n (G.free.at_ k))+List.count y (List.drop n (G.free.at_ k)):=by
    rw[←List.count_append,List.take_append_drop]
   show List.count y (a::((G.free.set_ k (List.take n (G.free.at_ k))).flat++((C.set_ k T).flat++flats cs)))=List.count y (G.free.flat++(C.flat++flats cs))
   rw[show ∀L:List Int,a::L=[a]++L from fun _=>rfl]
   simp only[List.count_append,List.count_nil]at c1 c2 c3 c4 ⊢
   omega
 ·have eG:zW g C k={g with free:=g.free}:=by
   unfold zW
   rw[if_pos he,if_neg h1]
  have eL:zcA g C k=C.at_ k:=by unfold zcA;rw[if_neg h1]
  rw[eG]
  rw[eL]at hcat
  have hmem:∀y,y∈T\/y=a->y∈C.at_ k:=fun y hy=>by
   rw[hcat]
   rcases hy with q|q
   ·exact List.mem_append_left _ q
   ·exact List.mem_append_right _ (List.mem_singleton.2 q)
  have ha:zL g k a=true:=zI.1 ((zai (zal hw)).2.1 C (List.mem_cons_of_mem _ (List.mem_cons_self ..))) k hk.1 hk.2 a (hmem a (.inr rfl))
  refine zmz (F':=g.free) (C':=C.set_ k T) hw hk ha hx hu hn (fun d d0 d2 y hy=>.inl hy) (fun d d0 d2 y hy=>?_) ?_
  ·rw[zf1 hk ⟨d0,d2⟩]at hy
   by_cases e:d=k
   ·rw[if_pos e]at hy;rw[e];exact .inr (hmem y (.inl hy))
   ·rw[if_neg e]at hy;exact .inr hy
  ·rw[List.perm_iff_count]
   intro y
   have c2:=zhS (l:=C) hk T y
   have c3:List.count y (C.at_ k)=List.count y (T++[a]):=by rw[←hcat]
   show List.count y (a::(g.free.flat++((C.set_ k T).flat++flats cs)))=List.count y (g.free.flat++(C.flat++flats cs))
   rw[show ∀L:List Int,a::L=[a]++L from fun _=>rfl]
   simp only[List.count_append]at c2 c3 ⊢
   omega
theorem zgU {g:Hp} {C:Lists} {cs:List Lists} {x:Hd} (hw:zt g (C::cs)=true) (he:zaC g C x=0) :
  zt (zeL g C x) (takeC g C x::cs)=true/\Took g (zeL g C x) (takeA g C x) x:=by
 obtain⟨t1,t2,t3⟩:=ziG he
 obtain⟨_,_,_,_,hp,hu,hc⟩:=ziQ he
 have hx:x.May:=by
  unfold zcy at hp
  by_cases h:x.May
  ·exact h
  ·rw[if_neg h]at hp;cases hp
 obtain⟨c1,c2,c3,c4,c5⟩:=znR hc
 rw[t1,t2,t3]
 have he' : (if zC x.n=3 then zcl g x.n else zV g C (zC x.n))=0:=by
  unfold zaC at he
  split at he
  ·cases he
  ·rw[if_neg (fun k=>k hc)]at he
   exact he
 unfold zke zlb zuF
 by_cases h3:zC x.n=3
 ·rw[if_pos h3]at he' ⊢
  rw[if_pos h3,if_pos h3]
  exact zrk hw hx hu ⟨hc,h3⟩ he'
 ·rw[if_neg h3]at he' ⊢
  rw[if_neg h3,if_neg h3]
  exact zra hw ⟨c3,by omega⟩ hx hu ⟨hc,rfl⟩ he'
theorem zsm {cs cs' : List Lists} (h:cs.Perm cs'):(flats cs).Perm (flats cs'):=by
 unfold flats
 induction h with
 |nil=>exact .refl _
 |cons x _ ih=>simp only[List.flatMap_cons];exact ih.append_left _
 |swap x y l=>
  simp only[List.flatMap_cons]
  rw[←List.append_assoc,←List.append_assoc]
  exact List.perm_append_comm.append_right _
 |trans _ _ i1 i2=>exact i1.trans i2
theorem zpe {g:Hp} {cs:List Lists} (hm:zw g cs=true) (h:∀u∈cellStarts g.pages,zf g u≠0\/u∈flats (g.free::cs)):zt g cs=true:=by
 unfold zt
 rw[hm,Bool.true_and,List.all_eq_true]
 intro u hu
 rw[Bool.or_eq_true]
 rcases h u hu with k|k
 ·exact .inl (by simpa using k)
 ·exact .inr (List.contains_iff_mem.2 k)
theorem zfB {g:Hp} {cs cs' : List Lists} (h:cs.Perm cs') (hw:zt g cs=true):zt g cs' = true:=by
 obtain⟨m1,m2,m3,m4⟩:=zai (zal hw)
 have hp:=zsm (h.cons g.free)
 exact zpe (zdD m1 (fun l hl=>m2 l ((h.cons g.free).mem_iff.2 hl)) m3 (hp.nodup_iff.1 m4)) fun u hu=>(zde hw hu).imp id fun q=>hp.mem_iff.1 q
theorem zlu {g:Hp} {cs:List Lists} (hw:zt g cs=true):zt g (⟨[],[],[]⟩::cs)=true:=by
 obtain⟨m1,m2,m3,m4⟩:=zai (zal hw)
 have e:flats (g.free::⟨[],[],[]⟩::cs)=flats (g.free::cs):=rfl
 refine zpe (zdD m1 (fun l hl=>?_) m3 (by rw[e];exact m4)) fun u hu=>by rw[e];exact zde hw hu
 rcases List.mem_cons.1 hl with rfl|hl
 ·exact m2 _ (List.mem_cons_self ..)
 ·rcases List.mem_cons.1 hl with rfl|hl
  ·rfl
  ·exact m2 l (List.mem_cons_of_mem _ hl)
theorem ze5 {g:Hp} {cs:List Lists} (hw:zt g cs=true):zw g []=true:=zbr (zal hw)
theorem zwK {g k:Hp} (hg:zw g []=true) (hk:zw k []=true) (hu:zaa k=zaa g) (hw:k.w=g.w) (hr:∀u,ze k.pages u≠0->ze k.pages u=ze g.pages u) (hc:k.cards=g.cards) (hp:k.pages.length=g.pages.length):Objs g k:=by
 have w:∀u,zf k u=zf g u:=fun u=>by unfold zf;rw[hw]
 have e0:∀u,headE k u=0↔headE g u=0:=fun u=>by rw[←zaJ,←zaJ,hu]
 have eE:∀u,headE k u=headE g u:=fun u=>by
  have e1:=zbL hg u
  have e2:=zbL hk u
  by_cases q:headE g u=0
  ·rw[q,(e0 u).2 q]
  ·have q':=fun z=>q ((e0 u).1 z)
   split at e1
   ·exact absurd e1 q
   ·split at e2
    ·exact absurd e2 q'
    ·rw[e1,e2]
 refine⟨eE,fun u=>?_,fun u _ f _ _=>w _,fun u hu'=>?_,hc,hp⟩
 ·by_cases q:headE g u=0
  ·rw[zas q,zas ((e0 u).2 q),w]
  ·rw[zbg rfl q,zbg (eE u) q]
 ·exact hr u (zG ((e0 u).2 hu')).2.1
theorem zey {g:Hp} {C:Lists} {cs:List Lists} (hw:zt g (C::cs)=true):zt (zgB g C) cs=true/\Objs g (zgB g C)/\(zgB g C).w=g.w:=by
 have hm:=zal hw
 have hC:zw g [C]=true:=by
  obtain⟨m1,m2,m3,m4⟩:=zai hm
  refine zdD m1 (fun l hl=>m2 l ?_) m3 ?_
  ·rcases List.mem_cons.1 hl with rfl|hl
   ·exact List.mem_cons_self ..
   ·rw[List.mem_singleton.1 hl];exact List.mem_cons_of_mem _ (List.mem_cons_self ..)
  ·have e:flats (g.free::C::cs)=flats [g.free,C]++flats cs:=by
    show g.free.flat++(C.flat++flats cs)=(g.free.flat++(C.flat++[]))++flats cs
    rw[List.append_nil,List.append_assoc]
   rw[e]at m4
   exact(List.nodup_append.1 m4).1
 unfold zgB
 rw[if_pos hC]
 obtain⟨p1,p2⟩:=zph hm
 have b:=zhR p1 g.pages.length (Nat.le_refl _)
 have hm0:=zbr hm
 refine⟨b.whole (p2 hw),?_,b.w⟩
 refine zwK hm0 (zbr b.may) (b.used.trans ?_) b.w b.room b.cards b.plen
 have h1:=zb9 (zbr p1)
 have h2:=zb9 hm0
 rw[h1,h2]
 rfl
theorem zpW {g k:Hp} (hp:k.pages=g.pages) (hf:k.free=g.free) (hl:k.w.length=g.w.length) (hc:k.cards.length=g.cards.length) (h:∀u,ze g.pages u≠0->zf k u=zf g u) :
  (∀cs,zw k cs=zw g cs)/\(∀cs,zt k cs=zt g cs)/\(∀u,headE k u=headE g u)/\(∀u,headH k u=headH g u):=by
 have hs:zD k=zD g:=by unfold zD zba;rw[hl,hp,hc]
 have hfr:∀c,zL k c=zL g c:=fun c=>funext fun u=>by
  unfold zL
  by_cases hr:0<ze g.pages u
  ·rw[h u (by omega)];unfold zQ;rw[hp]
  ·rw[decide_eq_false,decide_eq_false]
   ·exact fun q=>hr q.1
   ·rw[hp];exact fun q=>hr q.1
 have hli:zS k=zS g:=funext fun l=>by unfold zS;rw[hfr,hfr,hfr]
 have hce:∀u∈cellStarts g.pages,zah k u=zah g u:=fun u hu=>by
  unfold zah zQ;rw[h u (zn.1 hu),hp]
 have hcall:(cellStarts g.pages).all (zah k)=(cellStarts g.pages).all (zah g):=by
  rw[Bool.eq_iff_iff,List.all_eq_true,List.all_eq_true]
  exact⟨fun q u hu=>by rw[←hce u hu];exact q u hu,fun q u hu=>by rw[hce u hu];exact q u hu⟩
 have hm:∀cs,zw k cs=zw g cs:=fun cs=>by unfold zw;rw[hs,hf,hli,hp,hcall]
 have hE:∀u,headE k u=headE g u:=fun u=>by
  unfold headE
  rw[hm,hp]
  by_cases hr:ze g.pages u=0
  ·rw[decide_eq_true hr];rfl
  ·rw[h u hr]
 refine⟨hm,fun cs=>?_,hE,fun u=>?_⟩
 ·unfold zt
  rw[hm,hf,hp]
  congr 1
  rw[Bool.eq_iff_iff,List.all_eq_true,List.all_eq_true]
  exact⟨fun q u hu=>by rw[←h u (zn.1 hu)];exact q u hu,fun q u hu=>by rw[h u (zn.1 hu)];exact q u hu⟩
 ·by_cases q:headE g u=0
  ·rw[zas q,zas ((hE u).trans q),h u (zG q).2.1]
  ·rw[zbg rfl q,zbg (hE u) q]
abbrev zdu (g:Hp) (p v:Int):Hp:={g with w:=g.w.set (p-16).toNat v}
theorem zlt {g:Hp} {a f v:Int} (ha:headE g a=0) (hf:0<=f/\f<(headH g a).n) {u:Int} (hu:16<=u):zf (zdu g (a+1+f) v) u=if u=a+1+f then v else zf g u:=by
 obtain⟨_,h1,h2,_⟩:=zar ha
 obtain⟨z1,z2,z3,z4⟩:=zaQ ha
 show at0 (g.w.set (a+1+f-16).toNat v) (u-16).toNat=_
 rw[zkl (by omega)]
 by_cases e:u=a+1+f
 ·rw[if_pos e,if_pos (by rw[e])]
 ·rw[if_neg e,if_neg (by omega)]
  rfl
theorem zf7 {g:Hp} {a f v:Int} (ha:headE g a=0) (hf:0<=f/\f<(headH g a).n) :
  (∀cs,zt (zdu g (a+1+f) v) cs=zt g cs)/\(∀u,headE (zdu g (a+1+f) v) u=headE g u)/\(∀u,headH (zdu g (a+1+f) v) u=headH g u):=by
 obtain⟨_,h1,h2,_⟩:=zar ha
 obtain⟨z1,z2,z3,z4⟩:=zaQ ha
 have hr:=(zG ha).2.1
 obtain⟨_,b,c,d⟩:=zpW (g:=g) (k:=zdu g (a+1+f) v) rfl rfl (by show(List.set _ _ _).length=_;rw[List.length_set]) rfl fun u hu=>by
  have z:=(zaf (zq hu)).1
  have z:16<=u:=z
  have zp:=(zaf (zq hu)).2.1
  have zp:0<ze g.pages u:=zp
  rw[zlt ha hf z,if_neg]
  intro e
  have:=zpA hr hu (by omega) (f:=0) ⟨Int.le_refl _,zp⟩
  omega
 exact⟨b,c,d⟩
theorem zrn {g k:Hp} {c d:Col} {l:List Thread} (s:CStep g c l k d) {cs:List Lists} (hw:zt g cs=true):zt k cs=true:=by
 cases s
 case scan hm hp s=>
  have met:∀v,zt (zdm g c v).1 cs=true:=fun v=>by
   rcases zcP g c v with⟨_,e⟩|⟨_,e⟩<;>rw[e]
   ·rw[zbY];exact hw
   ·exact hw
  cases s
  case clean=>rw[zfl];exact hw
  case last v hv=>exact met v
  case more v hv=>exact met v
  case done=>
   split
   ·rw[zfl];exact hw
   ·exact hw
  all_goals exact hw
 case trace hm hp s=>
  cases s
  case last v hv=>rw[zit,zbY];exact hw
  case more v hv=>rw[zbY];exact hw
  all_goals exact hw
 case sweep hm hp s=>
  cases s
  case old p=>rw[zji p];exact hw
  case free h0=>exact(zv8 (zal hw) h0).whole hw
  case dirty=>rw[zfl];exact hw
  all_goals exact hw
 all_goals exact hw
structure Kp (W:List Lists->Prop) (m:Mu):Prop where
 whole:∀cs,W cs->zt m.h (m.t.cache::cs)=true
 may:m.t.mayT
 col:za1 m.c=true
theorem Kp.end_ {W:List Lists->Prop} {m:Mu} (h:Kp W m) (e v:Int):Kp W (endM m e v):=by
 obtain⟨a1,a2,a3,a4,a5,a6,a7,a8⟩:=h.may
 refine⟨h.whole,⟨a1,a2,a3,a4,Int.le_refl _,by show(0:Int)<=4;decide,?_,.inl rfl⟩,h.col⟩
 show((m.t.ops.drop 1).length:Int)<=200
 rw[List.length_drop];omega
theorem zgx (t:Thread) (r a:Int):(t.setReg r a).cache=t.cache/\(t.setReg r a).ops=t.ops/\(t.setReg r a).pc=t.pc/\(t.setReg r a).stage=t.stage/\(t.setReg r a).root=t.root/\(t.setReg r a).epoch=t.epoch/\(t.setReg r a).live=t.live/\(t.setReg r a).x=t.x/\(t.setReg r a).y=t.y:=by
 unfold Thread.setReg
 split
 ·exact⟨rfl,rfl,rfl,rfl,rfl,rfl,rfl,rfl,rfl⟩
 ·split
  ·exact⟨rfl,rfl,rfl,rfl,rfl,rfl,rfl,rfl,rfl⟩
  ·split<;>exact⟨rfl,rfl,rfl,rfl,rfl,rfl,rfl,rfl,rfl⟩
theorem Kp.set {W:List Lists->Prop} {m:Mu} (h:Kp W m) (r a:Int):Kp W (zca m r a):=by
 unfold zca
 split
 ·obtain⟨e1,e2,e3,e4,e5,_⟩:=zgx m.t r a
  refine⟨fun cs hc=>?_,?_,h.col⟩
  ·show zt m.h ((m.t.setReg r a).cache::cs)=true
   rw[e1];exact h.whole cs hc
  ·show(m.t.setReg r a).mayT
   unfold Thread.mayT
   rw[e2,e3,e4,e5]
   exact h.may
 ·exact h
theorem zls {g:Hp} {c:Col} (h:za1 c=true) (a:Int):za1 (zE g c a)=true:=by
 obtain⟨m1,m2,m3,m4,m5,m6⟩:=zdy h
 have s:=zfo g c a
 exact zsj (by rw[s.phase];exact m1) (by rw[s.phase];exact m2) (by rw[s.epoch];exact m3) (by rw[s.phase,s.epoch];exact m4) (by rw[s.epoch];exact m5) (zeA g c a m6)
theorem zgc {m:Mu} {r f:Int} (h:zaT m r f=0):headE m.h (zcZ m r f)=0/\0<=f/\f<(headH m.h (zcZ m r f)).n/\zcF m r f=zcZ m r f+1+f/\zcZ m r f=m.t.reg r/\0<=r/\r<=3:=by
 obtain⟨h1,h2,h3,h4,h5⟩:=zvT h
 unfold zdl at h1
 by_cases hr:0<=r/\r<=3
 ·rw[if_pos hr]at h1
  by_cases h0:headE m.h (m.t.reg r)=0
  ·have ea:ze2 m.h m.t r=m.t.reg r:=by unfold ze2;rw[if_pos hr,if_pos h0]
   have en:zd8 m.h m.t r=(headH m.h (m.t.reg r)).n:=by unfold zd8;rw[if_pos hr,if_pos h0]
   rw[h4,ea]
   rw[ea]at h5
   rw[en]at h3
   exact⟨h0,h2,h3,h5,rfl,hr.1,hr.2⟩
  ·rw[if_neg h0]at h1;cases h1
 ·rw[if_neg hr]at h1;cases h1
theorem Kp.shade {W:List Lists->Prop} {m:Mu} (h:Kp W m) (ho:0<m.t.ops.length) (hp:m.t.pc<=3) (a:Int):Kp W (zb3 m a):=by
 obtain⟨a1,a2,a3,a4,a5,a6,a7,a8⟩:=h.may
 refine⟨fun cs hc=>?_,⟨a1,a2,a3,a4,by show 0<=m.t.pc+1;omega,by show m.t.pc+1<=4;omega,a7,.inr (by show 0<(m.t.ops.length:Int);omega)⟩,?_⟩
 ·show zt (if zdZ m.c m.t=true then zJ m.h m.c a else m.h) (m.t.cache::cs)=true
  split
  ·rw[zbY];exact h.whole cs hc
  ·exact h.whole cs hc
 ·show za1 (if zdZ m.c m.t=true then zE m.h m.c a else m.c)=true
  split
  ·exact zls h.col a
  ·exact h.col
theorem Kp.step {W:List Lists->Prop} {m:Mu} (h:Kp W m) (hW:∃cs,W cs) (ho:0<m.t.ops.length):Kp W (zdA m):=by
 obtain⟨a1,a2,a3,a4,a5,a6,a7,a8⟩:=h.may
 unfold zdA
 split
 ·unfold createM
  split
  ·exact(h.set _ _).end_ _ _
  ·split
   ·exact h.end_ _ _
   ·split
    ·exact h.end_ _ _
    ·rename_i he
     have he:=Classical.not_not.1 he
     exact⟨fun cs hc=>(zgU (h.whole cs hc) he).1,⟨a1,a2,a3,a4,by show(0:Int)<=1;decide,by show(1:Int)<=4;decide,a7,.inr (by show 0<(m.t.ops.length:Int);omega)⟩,h.col⟩
 ·split
  ·unfold loadM
   split
   ·exact h.end_ _ _
   ·split
    ·exact h.end_ _ _
    ·exact(h.set _ _).end_ _ _
  ·split
   ·unfold storeM
    split
    ·unfold zgm
     split
     ·exact h.end_ _ _
     ·exact⟨h.whole,⟨a1,a2,a3,a4,by show(0:Int)<=1;decide,by show(1:Int)<=4;decide,a7,.inr (by show 0<(m.t.ops.length:Int);omega)⟩,h.col⟩
    ·split
     ·exact h.shade ho (by omega) _
     ·split
      ·exact h.shade ho (by omega) _
      ·split
       ·unfold zfY
        split
        ·exact h.end_ _ _
        ·rename_i he
         have he:=Classical.not_not.1 he
         obtain⟨f1,f2,f3,f4,_⟩:=zgc he
         refine⟨fun cs hc=>?_,⟨a1,a2,a3,a4,by show(0:Int)<=4;decide,Int.le_refl _,a7,.inr (by show 0<(m.t.ops.length:Int);omega)⟩,h.col⟩
         show zt (zdu m.h (zcF m m.op.a m.op.b) m.t.y) (m.t.cache::cs)=true
         rw[f4,(zf7 f1 ⟨f2,f3⟩).1]
         exact h.whole cs hc
       ·unfold zf2
        have hd:Kp W (zka m):=⟨h.whole,(h.end_ 0 0).may,h.col⟩
        split
        ·rename_i he
         obtain⟨f1,_⟩:=zgc he
         obtain⟨cs0,hc0⟩:=hW
         have hm0:=ze5 (h.whole cs0 hc0)
         obtain⟨z1,z2,z3,z4⟩:=zaQ f1
         have hcd:za7 m.h (zcZ m m.op.a m.op.b)=0:=ze4 hm0 ⟨z2,by omega⟩
         refine⟨fun cs hc=>?_,hd.may,h.col⟩
         show zt (zaN m.h (zcZ m m.op.a m.op.b)) (m.t.cache::cs)=true
         unfold zaN
         rw[decide_eq_true hcd]
         show zt (cset _ _ _) _=true
         rw[zfl]
         exact h.whole cs hc
        ·exact hd
   ·split
    ·exact(h.set _ _).end_ _ _
    ·split
     ·exact h.end_ _ _
     ·split
      ·exact h.end_ _ _
      ·split
       ·exact⟨fun cs hc=>zlu (zey (h.whole cs hc)).1,by show Thread.zero.mayT;decide,h.col⟩
       ·exact h.end_ _ _
theorem zaG {w:Wd}:zaP w=true↔w.t.length<=4/\(∀t∈w.t,t.mayT)/\za1 w.c=true/\zt w.h (zY w)=true:=by
 unfold zaP
 simp only[Bool.and_eq_true,decide_eq_true_eq,Bool.not_eq_true',List.any_eq_false,Bool.not_eq_true,decide_eq_false_iff_not,Classical.not_not]
theorem zki {α:Type}:∀ {l:List α} {i:Nat} (h:i<l.length) (y:α),l.Perm (l[i]::l.eraseIdx i)/\(l.set i y).Perm (y::l.eraseIdx i)
 |x::l,0,_,y=>⟨.refl _,.refl _⟩
 |x::l,i+1,h,y=>by
  obtain⟨h1,h2⟩:=zki (l:=l) (i:=i) (by simpa using h) y
  exact⟨(h1.cons x).trans (.swap _ _ _),(h2.cons x).trans (.swap _ _ _)⟩
theorem zeK {w:Wd} {n:Int} (h:zeb w n=true):n.toNat<w.t.length/\((n.toNat:Nat):Int)=n:=by
 have hr:0<=n/\n<(w.t.length:Int):=of_decide_eq_true h
 omega
theorem zh5 {w:Wd} {n:Int} (hi:zeb w n=true) (hl:n.toNat<(zY w).length):(zY w)[n.toNat]=(thW w n).cache:=by
 have hlt:=(zeK hi).1
 have e:(zY w)[n.toNat]? = some (thW w n).cache:=by
  unfold zY thW
  rw[List.getElem?_map,List.getD_eq_getElem?_getD,List.getElem?_eq_getElem hlt];rfl
 exact(List.getElem?_eq_some_iff.1 e).2
theorem zs1:∀ {L:List Lists} {l:Lists},l∈L->l.flat.length<=(flats L).length
 |x::L,l,h=>by
  have e:flats (x::L)=x.flat++flats L:=rfl
  rw[e,List.length_append]
  rcases List.mem_cons.1 h with rfl|h
  ·omega
  ·have:=zs1 h;omega
theorem zln {w:Wd} {n:Int} (hi:zeb w n=true) (hm:zaP w=true) {k:Hp} {d:Col} {u:Thread} {log:List Res} (hT:u.mayT) (hC:za1 d=true)
  (hW:∀cs,zt w.h ((thW w n).cache::cs)=true->zt k (u.cache::cs)=true):zaP ⟨k,d,w.t.set n.toNat u,log⟩=true:=by
 obtain⟨h1,h2,h3,h4⟩:=zaG.1 hm
 obtain⟨hlt,_⟩:=zeK hi
 refine zaG.2 ⟨by show(w.t.set _ _).length<=4;rw[List.length_set];exact h1,fun t ht=>?_,hC,?_⟩
 ·rcases zav ht with ht|rfl
  ·exact h2 t ht
  ·exact hT
 ·have hl:n.toNat<(zY w).length:=by unfold zY;rw[List.length_map];exact hlt
  obtain⟨p1,p2⟩:=zki hl u.cache
  have e:=zh5 hi hl
  have e2:zY ⟨k,d,w.t.set n.toNat u,log⟩=(zY w).set n.toNat u.cache:=by unfold zY;exact List.map_set ..
  rw[e2]
  rw[e]at p1
  exact zfB p2.symm (hW _ (zfB p1 h4))
theorem zm6 {w:Wd} (hm:zaP w=true) {k:Hp} {d:Col} {log:List Res} (hC:za1 d=true) (hW:zt k (zY w)=true):zaP ⟨k,d,w.t,log⟩=true:=by
 obtain⟨h1,h2,h3,h4⟩:=zaG.1 hm
 exact zaG.2 ⟨h1,h2,hC,hW⟩
theorem zwq {g k:Hp} {c d:Col} {l:List Thread} (s:CStep g c l k d) (h:za1 c=true):za1 d=true:=by
 obtain⟨m1,m2,m3,m4,m5,m6⟩:=zdy h
 obtain⟨e1,_,e2,e3⟩:=s.col
 refine zsj ?_ ?_ (by rw[e1];exact m3) (fun hp=>?_) (by rw[e1];exact m5) (e3 m6)
 ·rcases e2 with⟨e,_⟩|⟨_,_,_,e⟩|⟨_,_,e⟩|⟨_,_,e⟩|⟨_,e⟩
  ·rw[e];exact m1
  ·omega
  ·rw[e];split<;>decide
  ·omega
  ·omega
 ·rcases e2 with⟨e,_⟩|⟨_,_,_,e⟩|⟨_,_,e⟩|⟨_,_,e⟩|⟨_,e⟩
  ·rw[e];exact m2
  ·omega
  ·rw[e];split<;>decide
  ·omega
  ·omega
 ·rw[e1]
  refine m4 fun h0=>hp ?_
  rcases e2 with⟨e,_⟩|⟨_,_,_,e⟩|⟨_,_,e⟩|⟨_,_,e⟩|⟨_,e⟩<;>omega
theorem znU {w:Wd} (hm:zaP w=true) (e:Pair):zaP (doW w e)=true:=by
 obtain⟨h1,h2,h3,h4⟩:=zaG.1 hm
 obtain⟨m1,m2,m3,m4,m5,m6⟩:=zdy h3
 have hstart:∀m,zaP (startW w m)=true:=fun m=>by
  unfold startW
  split
  ·rename_i he
   refine zm6 hm ?_ h4
   unfold zbx
   rw[if_pos he]
   unfold zaw at he
   rw[if_pos h3]at he
   have:¬w.c.epoch=1048576:=fun q=>by
    rw[if_pos q]at he
    split at he<;>cases he
   exact zsj (by show(0:Int)<=1;decide) (by show(1:Int)<=6;decide) (by show 0<=w.c.epoch+1;omega) (fun _=>by show 1<=w.c.epoch+1;omega) (by show w.c.epoch+1<=1048576;omega) (by show 0<=4;decide)
  ·exact hm
 unfold doW
 rw[if_pos hm]
 unfold doW1
 split
 ·unfold stepW
  split
  ·exact hm
  ·rename_i hi
   have hi:zeb w e.snd=true:=by simpa using hi
   have hT:=h2 _ (zbZ hi)
   split
   ·exact hm
   ·rename_i hn
    split
    ·refine zln hi hm (zu7 hT) ?_ fun cs hc=>?_
     ·unfold ansC;split
      ·exact zls h3 _
      ·exact h3
     ·rw[(zm4 w.c (thW w e.snd)).cache]
      unfold ansG;split
      ·rw[zbY];exact hc
      ·exact hc
    ·have hlt:=(zeK hi).1
     have hl:e.snd.toNat<(zY w).length:=by unfold zY;rw[List.length_map];exact hlt
     have hp:=(zki hl default).1
     have ec:=zh5 hi hl
     rw[ec]at hp
     have hk0:Kp (fun cs=>zt w.h ((thW w e.snd).cache::cs)=true) ⟨w.h,w.c,thW w e.snd,Res.zero,false⟩:=⟨fun _ h=>h,hT,h3⟩
     have hk:Kp (fun cs=>zt w.h ((thW w e.snd).cache::cs)=true) (mutS w.h w.c (thW w e.snd)):=by
      unfold mutS
      split
      ·rename_i hM
       refine hk0.step ⟨_,zfB hp h4⟩ ?_
       unfold zg8 at hM
       simp only[Bool.and_eq_true,decide_eq_true_eq]at hM
       exact hM.2.2.1
      ·exact hk0
     exact zln hi hm hk.may hk.col hk.whole
 ·split
  ·exact zm6 hm (zwq (zfe w.h w.c w.t) h3) (zrn (zfe w.h w.c w.t) h4)
  ·split
   ·exact hstart _
   ·split
    ·exact hstart _
    ·split
     ·unfold beginW
      split
      ·exact hm
      ·rename_i hi
       have hi:zeb w e.snd=true:=by simpa using hi
       have hT:=h2 _ (zbZ hi)
       split
       ·exact hm
       ·obtain⟨a1,a2,a3,a4,a5,a6,a7,a8⟩:=hT
        refine zln hi hm ?_ h3 fun cs hc=>?_
        ·unfold beginT
         split
         ·rename_i x hx
          obtain⟨b1,b2,_⟩:=h2 x (List.mem_of_find?_eq_some hx)
          exact⟨b1,b2,Int.le_refl _,by show(0:Int)<=3;decide,Int.le_refl _,by show(0:Int)<=4;decide,a7,.inl rfl⟩
         ·refine⟨?_,?_,Int.le_refl _,by show(0:Int)<=3;decide,Int.le_refl _,by show(0:Int)<=4;decide,a7,.inl rfl⟩
          ·show 0<=zbQ w.c.phase
           unfold zbQ;split;decide;split;decide;split<;>decide
          ·show zbQ w.c.phase<=3
           unfold zbQ;split;decide;split;decide;split<;>decide
        ·have:(beginT w.c (thW w e.snd) w.t).cache=(thW w e.snd).cache:=by unfold beginT;split<;>rfl
         rw[this];exact hc
     ·exact hm
theorem zuM {w:Wd} (hm:zaP w=true) (hl:w.log.length<zi):w.Fit:=by
 obtain⟨h1,h2,h3,h4⟩:=zaG.1 hm
 obtain⟨c1,c2,c3,c4,c5,c6⟩:=zdy h3
 obtain⟨m1,m2,m3,m4⟩:=zai (zal h4)
 obtain⟨s1,s2,s3,s4,s5,s6⟩:=zm m1
 have hfl:(flats (w.h.free::zY w)).length<=512:=by
  refine Nat.le_trans (ze9 m4 (m:=cellStarts w.h.pages) fun x hx=>?_) (by unfold cellStarts;rw[List.length_map];exact zb0 _)
  obtain⟨l,hl,hx⟩:=zcQ.1 hx
  exact zn.2 (by have:=(zdj (m2 l hl) hx).1;omega)
 have hpart:∀l∈w.h.free::zY w,l.l0.length<=512/\l.l1.length<=512/\l.l2.length<=512:=by
  intro l hl
  have hs:=zs1 hl
  unfold Lists.flat at hs
  rw[List.length_append,List.length_append]at hs
  omega
 obtain⟨f0,f1,f2⟩:=hpart _ (List.mem_cons_self ..)
 refine⟨⟨?_,?_,?_,?_,?_,?_⟩,?_,h1,fun t ht=>?_,?_,hl⟩
 ·unfold zi;omega
 ·unfold zi;omega
 ·unfold zi;omega
 ·unfold zi;omega
 ·unfold zi;omega
 ·unfold zi;omega
 ·unfold zi;omega
 ·obtain⟨t1,t2,t3,t4,t5,t6,t7,t8⟩:=h2 t ht
  obtain⟨g0,g1,g2⟩:=hpart t.cache (List.mem_cons_of_mem _ (List.mem_map.2 ⟨t,ht,rfl⟩))
  refine⟨⟨?_,?_,?_,?_⟩,?_,?_,?_⟩<;>unfold zi<;>omega
 ·show(flats (w.h.free::zY w)).length<=zi
  unfold zi;omega
theorem znj (w:Wd) (e:Pair):(doW w e).log.length<=w.log.length+1:=by
 unfold doW
 split
 ·unfold doW1
  split
  ·unfold stepW
   split
   ·exact Nat.le_succ _
   ·split
    ·exact Nat.le_succ _
    ·split
     ·exact Nat.le_succ _
     ·show(zqW _ _ _).length<=_
      unfold zqW
      split
      ·rw[List.length_append];exact Nat.le_refl _
      ·exact Nat.le_succ _
  ·split
   ·exact Nat.le_succ _
   ·split
    ·unfold startW;split<;>exact Nat.le_succ _
    ·split
     ·unfold startW;split<;>exact Nat.le_succ _
     ·split
      ·unfold beginW
       split
       ·exact Nat.le_succ _
       ·split<;>exact Nat.le_succ _
      ·exact Nat.le_succ _
 ·exact Nat.le_succ _
open Go.Proofs Go.Proofs.YtlankjlnnimdoaaGreatDoor
theorem zoT:∀n:Nat,pgo 0 (List.replicate n ⟨0,0⟩)=true
 |0=>rfl
 |n+1=>by
  rw[List.replicate_succ]
  simp only[pgo]
  have:=zoT n
  simp[zaj,this]
theorem ztV (n i:Nat):(List.replicate n (⟨0,0⟩:Page)).getD i default=⟨0,0⟩:=by
 rw[List.getD_eq_getElem?_getD]
 by_cases h:i<n
 ·rw[List.getElem?_replicate,if_pos h];rfl
 ·rw[List.getElem?_replicate,if_neg h];rfl
theorem zf6 (n:Nat):cellStarts (List.replicate n ⟨0,0⟩)=[]:=by
 have:zZ (List.replicate n (⟨0,0⟩:Page)) 0=[]:=by
  unfold zZ
  rw[List.flatMap_eq_nil_iff]
  intro j _
  rw[ztV]
  rfl
 unfold cellStarts cellsAll
 rw[this]
 split<;>rfl
theorem zpg {n:Int} (h:pgN n=true):newH n=⟨zer (n*16).toNat,List.replicate n.toNat ⟨0,0⟩,⟨[],[],[]⟩,List.replicate (2*n).toNat false⟩:=by unfold newH;rw[h];rfl
theorem zhw {n:Int} (h:pgN n=true):zt (newH n) []=true/\zaa (newH n)=[]:=by
 have hn:=of_decide_eq_true h
 rw[zpg h]
 have hm:zw ⟨zer (n*16).toNat,List.replicate n.toNat ⟨0,0⟩,⟨[],[],[]⟩,List.replicate (2*n).toNat false⟩ []=true:=by
  unfold zw zD
  have h1:zba (zer (n*16).toNat)=true:=by
   unfold zba zer
   rw[List.length_replicate]
   exact decide_eq_true (by omega)
  have h2:zao (List.replicate n.toNat ⟨0,0⟩)=true:=by
   unfold zao
   rw[zoT,List.length_replicate,Bool.true_and]
   exact decide_eq_true (by omega)
  simp only[h1,h2,zf6]
  have h3:decide ((zer (n*16).toNat).length=16*(List.replicate n.toNat (⟨0,0⟩:Page)).length/\(List.replicate (2*n).toNat false).length=2*(List.replicate n.toNat (⟨0,0⟩:Page)).length)=true:=by
   apply decide_eq_true
   unfold zer
   simp only[List.length_replicate]
   omega
  rw[h3]
  rfl
 constructor
 ·unfold zt
  rw[hm,zf6]
  rfl
 ·unfold zaa
  rw[hm,zf6]
  rfl
end Go.Abs
namespace Go.Abs
set_option maxRecDepth 8000
theorem zib {n:Int} {l:List (List Op)} (h:zeI n l=0):pgN n=true/\l.length<=4/\(∀o∈l,o.length<=200)/\madeW n l=⟨newH n,Wd.zero.c,l.map fun o=>{Thread.zero with ops:=o},[]⟩:=by
 unfold zeI at h
 split at h
 ·rename_i h1;exact absurd h h1
 ·rename_i h1
  split at h
  ·cases h
  ·rename_i h2
   have hp:pgN n=true:=by
    have h1:=Classical.not_not.1 h1
    unfold newE at h1
    split at h1
    ·assumption
    ·cases h1
   have h2' : ∀o∈l,¬(4<l.length\/200<o.length):=by
    simp only[Bool.not_eq_true,List.any_eq_false,decide_eq_true_eq]at h2
    exact h2
   refine⟨hp,?_,fun o ho=>by have:=h2' o ho;omega,?_⟩
   ·cases l with
    |nil=>exact Nat.zero_le _
    |cons o r=>have:=h2' o (List.mem_cons_self ..);omega
   ·unfold madeW
    rw[if_neg h1,if_neg h2]
theorem zl1 {n:Int} {l:List (List Op)} (h:zeI n l=0):zaP (madeW n l)=true/\(madeW n l).log=[]:=by
 obtain⟨h1,h2,h3,e⟩:=zib h
 rw[e]
 refine⟨zaG.2 ⟨by show(l.map _).length<=4;rw[List.length_map];exact h2,fun t ht=>?_,by show za1 Wd.zero.c=true;decide,?_⟩,rfl⟩
 ·obtain⟨o,ho,rfl⟩:=List.mem_map.1 ht
  have:=h3 o ho
  exact⟨Int.le_refl 0,by show(0:Int)<=3;decide,Int.le_refl 0,by show(0:Int)<=3;decide,Int.le_refl 0,by show(0:Int)<=4;decide,by show(o.length:Int)<=200;omega,.inl rfl⟩
 ·show zt (newH n) ((l.map fun o=>{Thread.zero with ops:=o}).map (·.cache))=true
  rw[List.map_map]
  have hz:∀m:List (List Op),zt (newH n) (m.map ((·.cache) ∘ fun o=>{Thread.zero with ops:=o}))=true:=by
   intro m
   induction m with
   |nil=>exact(zhw h1).1
   |cons o r ih=>exact zlu ih
  exact hz l
theorem zok {w:Wd} (h:zaP w=true) (l:List Pair):zaP (runW w l)=true:=by
 unfold runW
 induction l generalizing w with
 |nil=>exact h
 |cons e r ih=>exact ih (znU h e)
theorem zwA (w:Wd) (l:List Pair):(runW w l).log.length<=w.log.length+l.length:=by
 unfold runW
 induction l generalizing w with
 |nil=>exact Nat.le_refl _
 |cons e r ih=>
  have h1:=ih (doW w e)
  have h2:=znj w e
  simp only[List.foldl_cons,List.length_cons]
  omega
theorem zsM {n:Int} {l:List (List Op)} (h:zeI n l=0) {e:List Pair} (he:e.length<=1000000) (i:Nat):(runW (madeW n l) (e.take i)).Fit:=by
 obtain⟨h1,h2⟩:=zl1 h
 refine zuM (zok h1 _) ?_
 have:=zwA (madeW n l) (e.take i)
 rw[h2,List.length_take]at this
 simp only[List.length_nil]at this
 unfold zi
 omega
def EpX (e:Int) (x:Hd):Prop:=x.mark<=e/\x.born<=e/\(x.old=false->x.born<=x.mark)
def EpH (e:Int) (g:Hp):Prop:=∀u,headE g u=0->EpX e (headH g u)
theorem EpH.mono {e e' : Int} {g:Hp} (h:EpH e g) (h' : e<=e'):EpH e' g:=fun u hu=>by
 obtain⟨a,b,c⟩:=h u hu
 exact⟨by omega,by omega,c⟩
theorem EpH.same {e:Int} {g k:Hp} (h:EpH e g) (hs:∀u,headE k u=0->headE g u=0/\headH k u=headH g u):EpH e k:=fun u hu=>by
 obtain⟨a,b⟩:=hs u hu
 rw[b];exact h u a
theorem EpH.shade {g:Hp} {c:Col} (h:EpH c.epoch g) (a:Int):EpH c.epoch (zJ g c a):=fun u hu=>by
 obtain⟨e1,e2⟩:=zew g c a u
 rw[e1]at hu
 obtain⟨q1,q2,q3⟩:=h u hu
 rw[e2]
 split
 ·rename_i k
  obtain⟨rfl,k⟩:=k
  obtain⟨_,k2⟩:=zxX k
  exact⟨Int.le_refl _,q2,fun _=>q2⟩
 ·exact⟨q1,q2,q3⟩
theorem EpH.black {e:Int} {g:Hp} {c:Col} (h:EpH e g) (a:Int):EpH e (zan g c a):=fun u hu=>by
 obtain⟨e1,e2⟩:=zeJ g c a u
 rw[e1]at hu
 have q:=h u hu
 rw[e2]
 split
 ·rename_i k
  obtain⟨rfl,_⟩:=k
  exact q
 ·exact q
theorem EpH.card {e:Int} {g:Hp} (h:EpH e g) (i:Int) (b:Bool):EpH e (cset g i b):=h.same fun u hu=>⟨by rw[za4]at hu;exact hu,zbP _ _ _ _⟩
theorem EpH.cyc {g k:Hp} {c d:Col} {l:List Thread} (h:EpH c.epoch g) (s:CStep g c l k d) {cs:List Lists} (hw:zt g cs=true):EpH c.epoch k:=by
 cases s
 case scan hm hp s=>
  have met:∀v,EpH c.epoch (zdm g c v).1:=fun v=>by
   rcases zcP g c v with⟨_,e⟩|⟨_,e⟩<;>rw[e]
   ·exact h.shade v
   ·exact h
  cases s
  case clean=>exact h.card _ _
  case last v hv=>exact met v
  case more v hv=>exact met v
  case done=>
   split
   ·exact h.card _ _
   ·exact h
  all_goals exact h
 case trace hm hp s=>
  cases s
  case last v hv=>exact(h.shade v).black _
  case more v hv=>exact h.shade v
  all_goals exact h
 case sweep hm hp s=>
  cases s
  case old hm hp hmet hf h0 p=>
   intro u hu
   obtain⟨e1,e2⟩:=ziB p u
   rw[e1]at hu
   rw[e2]
   split
   ·rename_i e
    subst e
    obtain⟨q1,q2,q3⟩:=h _ hu
    exact⟨q1,q2,fun k=>by cases k⟩
   ·exact h u hu
  case free hm hp hmet hn hl hq hf h0=>
   have f:=zv8 (zal hw) h0
   exact h.same fun u hu=>⟨((f.head u).1.1 hu).1,(f.head u).2 hu⟩
  case dirty hc=>exact h.card _ _
  all_goals exact h
 all_goals exact h
structure EpM (m:Mu):Prop where
 h:EpH m.c.epoch m.h
 t:m.t.epoch<=m.c.epoch
 z:0<=m.c.epoch
theorem EpM.end_ {m:Mu} (h:EpM m) (e v:Int):EpM (endM m e v):=⟨h.h,h.t,h.z⟩
theorem EpM.set {m:Mu} (h:EpM m) (r a:Int):EpM (zca m r a):=by
 unfold zca
 split
 ·refine⟨h.h,?_,h.z⟩
  show(m.t.setReg r a).epoch<=_
  rw[(zgx m.t r a).2.2.2.2.2.1];exact h.t
 ·exact h
theorem EpM.shade {m:Mu} (h:EpM m) (a:Int):EpM (zb3 m a):=by
 have e:(zb3 m a).c.epoch=m.c.epoch:=(zjb m a).c.epoch
 refine⟨?_,by rw[e];exact h.t,by rw[e];exact h.z⟩
 rw[e]
 show EpH m.c.epoch (if zdZ m.c m.t=true then zJ m.h m.c a else m.h)
 split
 ·exact h.h.shade a
 ·exact h.h
theorem zvk {m:Mu} (h:0<=m.c.epoch) (n:Int):EpX m.c.epoch (zau m n):=by
 unfold zau
 split
 ·exact⟨Int.le_refl _,Int.le_refl _,fun _=>Int.le_refl _⟩
 ·exact⟨h,h,fun _=>Int.le_refl _⟩
theorem EpM.step {m:Mu} (h:EpM m) {cs:List Lists} (hw:zt m.h (m.t.cache::cs)=true):EpM (zdA m):=by
 unfold zdA
 split
 ·unfold createM
  split
  ·exact(h.set _ _).end_ _ _
  ·split
   ·exact h.end_ _ _
   ·split
    ·exact h.end_ _ _
    ·rename_i he
     have he:=Classical.not_not.1 he
     have t:=(zgU hw he).2
     refine⟨fun u hu=>?_,h.t,h.z⟩
     show EpX m.c.epoch (headH (zeL m.h m.t.cache (zau m m.op.b)) u)
     have hu:headE (zeL m.h m.t.cache (zau m m.op.b)) u=0:=hu
     by_cases e:u=takeA m.h m.t.cache (zau m m.op.b)
     ·rw[e,t.self.2];exact zvk h.z _
     ·obtain⟨e1,e2⟩:=t.head u e
      rw[e2];exact h.h u (by rw[←e1];exact hu)
 ·split
  ·unfold loadM
   split
   ·exact h.end_ _ _
   ·split
    ·exact h.end_ _ _
    ·exact(h.set _ _).end_ _ _
  ·split
   ·unfold storeM
    split
    ·unfold zgm
     split
     ·exact h.end_ _ _
     ·exact⟨h.h,h.t,h.z⟩
    ·split
     ·exact h.shade _
     ·split
      ·exact h.shade _
      ·split
       ·unfold zfY
        split
        ·exact h.end_ _ _
        ·rename_i he
         have he:=Classical.not_not.1 he
         obtain⟨f1,f2,f3,f4,_⟩:=zgc he
         obtain⟨_,k2,k3⟩:=zf7 (v:=m.t.y) f1 ⟨f2,f3⟩
         refine⟨?_,h.t,h.z⟩
         show EpH m.c.epoch (zdu m.h (zcF m m.op.a m.op.b) m.t.y)
         rw[f4]
         exact h.h.same fun u hu=>⟨by rw[←k2];exact hu,k3 u⟩
       ·unfold zf2
        split
        ·rename_i he
         obtain⟨f1,_⟩:=zgc he
         obtain⟨z1,z2,z3,z4⟩:=zaQ f1
         have hcd:za7 m.h (zcZ m m.op.a m.op.b)=0:=ze4 (ze5 hw) ⟨z2,by omega⟩
         refine⟨?_,h.t,h.z⟩
         show EpH m.c.epoch (zaN m.h (zcZ m m.op.a m.op.b))
         unfold zaN
         rw[decide_eq_true hcd]
         exact h.h.card _ _
        ·exact⟨h.h,h.t,h.z⟩
   ·split
    ·exact(h.set _ _).end_ _ _
    ·split
     ·exact h.end_ _ _
     ·split
      ·exact h.end_ _ _
      ·split
       ·obtain⟨_,o,_⟩:=zey hw
        refine⟨h.h.same fun u hu=>⟨by rw[←o.headE];exact hu,o.headH u⟩,h.z,h.z⟩
       ·exact h.end_ _ _
structure EpW (w:Wd):Prop where
 h:EpH w.c.epoch w.h
 t:∀t∈w.t,t.epoch<=w.c.epoch
theorem zjm {w:Wd} {n:Int} (hi:zeb w n=true) (hw:zt w.h (zY w)=true):∃cs,zt w.h ((thW w n).cache::cs)=true:=by
 have hlt:=(zeK hi).1
 have hl:n.toNat<(zY w).length:=by unfold zY;rw[List.length_map];exact hlt
 have hp:=(zki hl default).1
 have ec:=zh5 hi hl
 rw[ec]at hp
 exact⟨_,zfB hp hw⟩
theorem EpW.do_ {w:Wd} (h:EpW w) (e:Pair):EpW (doW w e):=by
 unfold doW
 by_cases hm:zaP w=true
 ·rw[if_pos hm]
  obtain⟨h1,h2,h3,h4⟩:=zaG.1 hm
  obtain⟨m1,m2,m3,m4,m5,m6⟩:=zdy h3
  have hstart:∀m,EpW (startW w m):=fun m=>by
   unfold startW
   split
   ·rename_i he
    have ec:(zbx w.c m).epoch=w.c.epoch+1:=by unfold zbx;rw[if_pos he]
    refine⟨?_,fun t ht=>?_⟩
    ·show EpH (zbx w.c m).epoch w.h
     rw[ec];exact h.h.mono (by omega)
    ·show t.epoch<=(zbx w.c m).epoch
     have:=h.t t ht
     rw[ec];omega
   ·exact h
  unfold doW1
  split
  ·unfold stepW
   split
   ·exact h
   ·rename_i hi
    have hi:zeb w e.snd=true:=by simpa using hi
    have hT:=h.t _ (zbZ hi)
    split
    ·exact h
    ·split
     ·have ec:=(zld w.h w.c (thW w e.snd)).epoch
      refine⟨?_,fun t ht=>?_⟩
      ·show EpH (ansC w.h w.c (thW w e.snd)).epoch (ansG w.h w.c (thW w e.snd))
       rw[ec]
       unfold ansG
       split
       ·exact h.h.shade _
       ·exact h.h
      ·show t.epoch<=(ansC w.h w.c (thW w e.snd)).epoch
       rw[ec]
       rcases zav ht with ht|rfl
       ·exact h.t t ht
       ·unfold ansT
        split
        ·exact hT
        ·exact Int.le_refl _
        ·exact hT
        ·split
         ·exact hT
         ·exact hT
     ·have ec:=(ztn w.h w.c (thW w e.snd)).c.epoch
      have hM:EpM (mutS w.h w.c (thW w e.snd)):=by
       have h0:EpM ⟨w.h,w.c,thW w e.snd,Res.zero,false⟩:=⟨h.h,hT,m3⟩
       unfold mutS
       split
       ·obtain⟨cs,hc⟩:=zjm hi h4
        exact h0.step hc
       ·exact h0
      refine⟨hM.h,fun t ht=>?_⟩
      rcases zav ht with ht|rfl
      ·show t.epoch<=(mutS w.h w.c (thW w e.snd)).c.epoch
       rw[ec];exact h.t t ht
      ·exact hM.t
  ·split
   ·have s:=zfe w.h w.c w.t
    have ec:=s.col.1
    refine⟨?_,fun t ht=>?_⟩
    ·show EpH (zb5 w.h w.c w.t).2.epoch (zb5 w.h w.c w.t).1
     rw[ec];exact h.h.cyc s h4
    ·show t.epoch<=(zb5 w.h w.c w.t).2.epoch
     rw[ec];exact h.t t ht
   ·split
    ·exact hstart _
    ·split
     ·exact hstart _
     ·split
      ·unfold beginW
       split
       ·exact h
       ·rename_i hi
        have hi:zeb w e.snd=true:=by simpa using hi
        split
        ·exact h
        ·refine⟨h.h,fun t ht=>?_⟩
         rcases zav ht with ht|rfl
         ·exact h.t t ht
         ·show(beginT w.c (thW w e.snd) w.t).epoch<=w.c.epoch
          unfold beginT
          split
          ·rename_i x hx
           exact h.t x (List.mem_of_find?_eq_some hx)
          ·show(if w.c.phase=0 then 0 else w.c.epoch)<=w.c.epoch
           split
           ·exact m3
           ·exact Int.le_refl _
      ·exact h
 ·rw[if_neg hm];exact h
theorem EpW.made {n:Int} {l:List (List Op)} (h:zeI n l=0):EpW (madeW n l):=by
 obtain⟨h1,h2,h3,e⟩:=zib h
 rw[e]
 refine⟨fun u hu=>?_,fun t ht=>?_⟩
 ·have hu:u∈zaa (newH n):=zaJ.2 hu
  rw[(zhw h1).2]at hu
  cases hu
 ·obtain⟨o,_,rfl⟩:=List.mem_map.1 ht
  exact Int.le_refl _
theorem AnsW.made (n:Int) (l:List (List Op)):AnsW (madeW n l):=by
 unfold madeW
 split
 ·intro t ht;cases ht
 ·split
  ·intro t ht;cases ht
  ·intro t ht hl
   obtain⟨o,_,rfl⟩:=List.mem_map.1 ht
   cases hl
open Go.Proofs Go.Proofs.YtlankjlnnimdoaaGreatDoor
set_option maxRecDepth 60000
set_option maxHeartbeats 4000000
theorem zjg {w:Wd} (h:zaP w=true):∀k,zaP (zdt w k)=true/\(zdt w k).log.length<=w.log.length+k
 |0=>⟨h,Nat.le_refl _⟩
 |k+1=>by
  obtain⟨h1,h2⟩:=zjg h k
  have:=znj (zdt w k) ⟨0,(k:Int)⟩
  exact⟨znU h1 _,by show(doW _ _).log.length<=_;omega⟩
theorem ztv {w:Wd} (h:zaP w=true):zaP (zhN w)=true/\(zhN w).log.length<=w.log.length+5:=by
 obtain⟨h1,h2⟩:=zjg h w.t.length
 have h4:=(zaG.1 h).1
 have:=znj (zdt w w.t.length) ⟨1,0⟩
 exact⟨znU h1 _,by show(doW _ _).log.length<=_;omega⟩
theorem zkh {w:Wd} (h:zaP w=true) (hl:w.log.length<=4000000):w.Fit:=zuM h (by unfold zi;omega)
theorem zqb (w:Wd) (m:Nat) (hw:zaP w=true) (hL:w.log.length+5*m<=1000000):Spec X 11 [] [w.tv,.int (m:Int)] (Ret [] (roundsW m w).tv):=by
 refine zGO X_ok Tryz.f11 fun hb hH=>⟨rfl,?_⟩
 show ∃n,_
 refine⟨0,ALoop.inv (ι:={q:Nat×Wd // q.1<=m/\roundsW (m-q.1) q.2=roundsW m w/\zaP q.2=true/\q.2.log.length<=w.log.length+5*q.1}) (fun q=>⟨[(1,.int ((m:Int))),(2,.c (.ptr 0 0 0)),(4,.c (.ptr 1 0 0)),(5,.int ((q.1.1:Int)))],[(0,.vars (q.1.2.cells.map .d)),(1,.vars (List.replicate 18 .any))],128⟩) (fun q=>m-q.1.1) ⟨(0,w),Nat.zero_le _,rfl,hw,Nat.le_refl _⟩ ?_ ?_⟩
 ·exact⟨[(32,0),(64,1)],(by repeat' first|exact .nil|refine .cons _ _ _ ?_ ?_|exact .c _ _ (.ptr _ _ _ _ rfl)|exact .same|exact .c _ _ (.own _ _ rfl)|exact .c _ _ (.ptr _ _ _ _ rfl)|exact .c _ _ (.frz _ _ rfl)|exact .any _),(by exact .old 0 32 _ _ _ rfl rfl (.vars _ _ (by repeat (first|exact .nil|refine .cons _ _ _ _ (.d _) ?_))) (.old 1 64 _ _ _ rfl rfl (.vars _ _ (by repeat (first|exact .nil|refine .cons _ _ _ _ (.any _) ?_))) .nil)),(by rfl)⟩
 rintro⟨⟨i,u⟩,hi,hr,hp,hl⟩
 have hi:i<=m:=hi
 have hr:roundsW (m-i) u=roundsW m w:=hr
 have hp:zaP u=true:=hp
 have hl:u.log.length<=w.log.length+5*i:=hl
 by_cases hlt:i<m
 ·show ABr (bif decide ((i:Int)<(m:Int)) then (u.c.phase != 0) else false) _ _
  rw[decide_eq_true (show(i:Int)<(m:Int) by omega)]
  have hrd:roundsW (m-i) u=if u.c.phase≠0 then roundsW (m-(i+1)) (zhN u) else u:=by
   rw[show m-i=(m-(i+1))+1 by omega];rfl
  show ABr (u.c.phase != 0) _ _
  by_cases h0:u.c.phase=0
  ·rw[show(u.c.phase != 0)=false by simpa using h0]
   refine zNO (by decide) ?_
   rw[if_neg (fun k=>k h0)]at hrd
   have he:u=roundsW m w:=hrd.symm.trans hr
   show ARet ..
   refine⟨[],[],[(u).tv],.cons _ _ _ _ (.agg _ _ ?_) .nil,.nil,rfl,rfl,congrArg (fun x:Wd=>x.tv) he⟩
   repeat (first|exact .nil|refine .cons _ _ _ _ (.d _) ?_|refine .cons _ _ _ _ (.nilsl _) ?_|refine .cons _ _ _ _ (.frz _ _ rfl) ?_)
  ·rw[show(u.c.phase != 0)=true by simpa using h0]
   refine zYE (by decide) ?_
   rw[if_pos h0]at hrd
   have wi:IntKind.i64.wrap ((i:Int)+1)=((i+1:Nat):Int):=zP (i:=i) (by unfold zA;omega)
   have h4:=(zaG.1 hp).1
   show ∃n,_
   refine⟨0,ALoop.inv (ι:={q:Nat // q<=u.t.length}) (fun q=>⟨[(1,.int ((m:Int))),(2,.c (.ptr 0 0 0)),(4,.c (.ptr 1 0 0)),(5,.int ((i:Int))),(6,.int ((q.1:Int)))],[(0,.vars ((zdt u q.1).cells.map .d)),(1,.vars (List.replicate 18 .any))],128⟩) (fun q=>u.t.length-q.1) ⟨0,Nat.zero_le _⟩ ?_ ?_⟩
   ·exact⟨[(0,0),(1,1)],(by repeat' first|exact .nil|refine .cons _ _ _ ?_ ?_|exact .c _ _ (.ptr _ _ _ _ rfl)|exact .same|exact .c _ _ (.own _ _ rfl)|exact .c _ _ (.ptr _ _ _ _ rfl)|exact .c _ _ (.frz _ _ rfl)|exact .any _),(by exact .old 0 0 _ _ _ rfl rfl (.vars _ _ (by repeat (first|exact .nil|refine .cons _ _ _ _ (.d _) ?_))) (.old 1 1 _ _ _ rfl rfl (.vars _ _ (by repeat (first|exact .nil|refine .cons _ _ _ _ (.any _) ?_))) .nil)),(by rfl)⟩
   rintro⟨j,hj⟩
   obtain⟨k1,k2⟩:=zjg hp j
   have klen:=zma u j
   have kstep:zdt u (j+1)=doW (zdt u j) ⟨0,(j:Int)⟩:=rfl
   have kround:j=u.t.length->zhN u=doW (zdt u j) ⟨1,0⟩:=fun e=>by rw[e];rfl
   obtain⟨v,hv⟩:∃v,v=zdt u j:=⟨_,rfl⟩
   rw[←hv]at k1 k2 klen kstep kround ⊢
   show ABr (decide ((j:Int)<(v.t.length:Int))) _ _
   by_cases hjl:j<u.t.length
   ·rw[decide_eq_true (show(j:Int)<(v.t.length:Int) by omega)]
    refine zYE (by decide) ?_
    have wj:IntKind.i64.wrap ((j:Int)+1)=((j+1:Nat):Int):=zP (i:=j) (by unfold zA;omega)
    show ACall ..
    refine za (zdQ v ⟨0,(j:Int)⟩ (zkh k1 (by omega))) rfl ?_
    generalize doWE v ⟨0,(j:Int)⟩=x
    rw[←kstep]
    show ARound ..
    exact⟨⟨j+1,hjl⟩,(by dsimp only;omega),[(0,0),(1,1)],(by repeat' first|exact .nil|refine .cons _ _ _ ?_ ?_|exact .c _ _ (.ptr _ _ _ _ rfl)|exact .int_eq wj|exact .same|exact .c _ _ (.own _ _ rfl)|exact .c _ _ (.ptr _ _ _ _ rfl)|exact .c _ _ (.frz _ _ rfl)|exact .any _),(by exact .old 0 0 _ _ _ rfl rfl (.vars _ _ (by repeat (first|exact .nil|refine .cons _ _ _ _ (.d _) ?_))) (.old 1 1 _ _ _ rfl rfl (.vars _ _ (by repeat (first|exact .nil|refine .cons _ _ _ _ (.any _) ?_))) .nil)),(by rfl)⟩
   ·rw[decide_eq_false (show ¬(j:Int)<(v.t.length:Int) by omega)]
    refine zNO (by decide) ?_
    have hj:j<=u.t.length:=hj
    show ACall ..
    refine za (zdQ v ⟨1,0⟩ (zkh k1 (by omega))) rfl ?_
    generalize doWE v ⟨1,0⟩=x
    rw[←kround (by omega)]
    obtain⟨r1,r2⟩:=ztv hp
    show ARound ..
    exact⟨⟨(i+1,zhN u),hlt,hrd.symm.trans hr,r1,by show(zhN u).log.length<=w.log.length+5*(i+1);omega⟩,(by dsimp only;omega),[(0,0),(1,1)],(by repeat' first|exact .nil|refine .cons _ _ _ ?_ ?_|exact .c _ _ (.ptr _ _ _ _ rfl)|exact .int_eq wi|exact .same|exact .c _ _ (.own _ _ rfl)|exact .c _ _ (.ptr _ _ _ _ rfl)|exact .c _ _ (.frz _ _ rfl)|exact .any _),(by exact .old 0 0 _ _ _ rfl rfl (.vars _ _ (by repeat (first|exact .nil|refine .cons _ _ _ _ (.d _) ?_))) (.old 1 1 _ _ _ rfl rfl (.vars _ _ (by repeat (first|exact .nil|refine .cons _ _ _ _ (.any _) ?_))) .nil)),(by rfl)⟩
 ·show ABr (bif decide ((i:Int)<(m:Int)) then (u.c.phase != 0) else false) _ _
  rw[decide_eq_false (show ¬(i:Int)<(m:Int) by omega)]
  show ABr false _ _
  refine zNO (by decide) ?_
  have hrd:roundsW (m-i) u=u:=by rw[show m-i=0 by omega];rfl
  have he:u=roundsW m w:=hrd.symm.trans hr
  show ARet ..
  refine⟨[],[],[(u).tv],.cons _ _ _ _ (.agg _ _ ?_) .nil,.nil,rfl,rfl,congrArg (fun x:Wd=>x.tv) he⟩
  repeat (first|exact .nil|refine .cons _ _ _ _ (.d _) ?_|refine .cons _ _ _ _ (.nilsl _) ?_|refine .cons _ _ _ _ (.frz _ _ rfl) ?_)
end Go.Abs
namespace Go.Abs
set_option maxRecDepth 8000
def opA:Op:=⟨0,0,3,0⟩
def evA:List Pair:=[⟨4,0⟩,⟨0,0⟩,⟨0,0⟩,⟨0,0⟩,⟨0,0⟩]
def w1A:Wd:=runW (madeW 1 [[opA,opA]]) evA
def hA:Hp:=⟨[4294967327,0,0,0,0,0,0,0,0,0,0,0,0,0,0,0],[⟨1,1⟩],⟨[],[28,24,20],[]⟩,[true,false]⟩
def cA:Col:=⟨0,1,true,[],false,0,0,0,0,false⟩
def tA:Thread:=⟨true,16,0,0,0,⟨[],[],[]⟩,1,3,0,[],0,0,0⟩
def wA:Wd:=⟨hA,cA,[tA],[⟨0,opA,0,0⟩,⟨0,opA,0,0⟩]⟩
theorem vA:zeI 1 [[opA,opA]]=0/\(zaa w1A.h).length=2/\w1A.log.length=2/\(roundsW 400 (zbK w1A true)).h=wA.h/\(roundsW 400 (zbK w1A true)).c=wA.c/\(roundsW 400 (zbK w1A true)).t=wA.t/\(roundsW 400 (zbK w1A true)).log=wA.log:=by decide +kernel
theorem vA2:zaa hA=[16]/\headE hA 16=0/\headH hA 16=⟨true,true,true,3,0,1⟩/\zob hA 16=true/\zaP wA=true:=by decide +kernel
theorem zgg:hA.light:=zvS (by decide) (by decide) (by decide)
theorem zw5:roundsW 400 (zbK w1A true)=wA:=by
 obtain⟨_,_,_,h1,h2,h3,h4⟩:=vA
 generalize roundsW 400 (zbK w1A true)=w at h1 h2 h3 h4
 cases w
 cases h1;cases h2;cases h3;cases h4
 rfl
open Go.Proofs Go.Proofs.YtlankjlnnimdoaaGreatDoor
set_option maxRecDepth 60000
set_option maxHeartbeats 4000000
theorem zoh:Spec X 89 [] [hA.tv,.int 16] (Ret [] (.c (.d (.sl .int ([0,0,0]:List Int))))):=by
 refine zGO X_ok Tryz.f89 fun hb hH=>⟨rfl,?_⟩
 show ACall ..
 refine za (zaI hA 16 zgg) rfl ?_
 rw[vA2.2.1,vA2.2.2.1]
 refine zNO (by decide) ?_
 show AOb ..
 refine⟨by decide,?_⟩
 show AOb ..
 refine⟨by decide,?_⟩
 show ARet ..
 exact zg rfl ⟨rfl,rfl⟩
theorem zrl:Spec X 46 [] (.int 16::zcS [.rp wA.cells]) (Ret [] (.bo false)):=by
 refine zGO X_ok Tryz.f46 fun hb hH=>⟨rfl,?_⟩
 show ACall ..
 refine za (zaI hA 16 zgg) rfl ?_
 rw[vA2.2.1,vA2.2.2.1]
 show ARet ..
 exact zg rfl ⟨rfl,rfl⟩
theorem zoQ:Spec X 48 [] [wA.tv,.int 16] (Ret [] (.bo false)):=by
 refine zGO X_ok Tryz.f48 fun hb hH=>⟨rfl,?_⟩
 show ACall ..
 refine za (zaI hA 16 zgg) rfl ?_
 rw[vA2.2.1,vA2.2.2.1]
 show AIf ..
 refine⟨fun h=>absurd h.1 (by decide),fun _=>?_⟩
 show AOb ..
 refine⟨by decide,?_⟩
 show AIf ..
 refine⟨fun _=>?_,fun h=>absurd ⟨rfl,trivial⟩ h⟩
 show ACall ..
 refine za (zw2 hA 16 zgg (by decide)) rfl ?_
 rw[vA2.2.2.2.1]
 refine zYE (by decide) ?_
 show ARet ..
 exact zg rfl ⟨rfl,rfl⟩
theorem ztJ:Spec X 52 [] (.int 0::zcS [.rp wA.cells]) (Ret [] (.bo false)):=by
 refine zGO X_ok Tryz.f52 fun hb hH=>⟨rfl,?_⟩
 have hf:wA.Fit:=zkh vA2.2.2.2.2 (by decide)
 show ACall ..
 refine za (zmo wA (fun t ht=>(hf.th t ht).1) (fun _=>hf.flat)) rfl ?_
 rw[vA2.2.2.2.2]
 show ARet ..
 exact zg rfl ⟨rfl,rfl⟩
theorem zx1:Spec X 88 [] [tA.tv] (Ret [] (.c (.d (.sl .int ([16]:List Int))))):=zrT tA
theorem zpf:Spec X 45 [] [wA.tv] (Ret [(0,.data .int ([16]:List Int))] (.c (.own 0))):=by
 refine zGO X_ok Tryz.f45 fun hb hH=>⟨rfl,?_⟩
 show ∃n,_
 refine⟨2,.next ?_⟩
 refine zYE (by decide) ?_
 show AOb ..
 refine⟨by decide,?_⟩
 show ABr true _ _
 refine zYE (by decide) ?_
 show ACall ..
 refine za (zx1) rfl ?_
 show AOb ..
 refine⟨by show(1:Nat)<=zi;decide,?_⟩
 show ALoop ..
 refine .next ?_
 refine zNO (by decide) ?_
 show ∃n,_
 refine⟨5,.next ?_⟩
 show ABr true _ _
 refine zYE (by decide) ?_
 show AOb ..
 refine⟨by decide,?_⟩
 show AOb ..
 refine⟨by decide,?_⟩
 show AOb ..
 refine⟨by decide,?_⟩
 show AOb ..
 refine⟨(fun _ p hp=>absurd hp (List.not_mem_nil)),?_⟩
 show ABr false _ _
 refine zNO (by decide) ?_
 show AOb ..
 refine⟨by show(1:Nat)<=zi;decide,?_⟩
 show ACall ..
 refine za (zoh) rfl ?_
 show AOb ..
 refine⟨by show(3:Nat)<=zi;decide,?_⟩
 iterate 3
  show ALoop ..
  refine .next ?_
  show ABr true _ _
  refine zYE (by decide) ?_
  show AOb ..
  refine⟨by decide,?_⟩
  show AOb ..
  refine⟨by decide,?_⟩
  show AOb ..
  refine⟨by decide,?_⟩
  show AOb ..
  refine⟨(fun h=>absurd h.1 (by decide)),?_⟩
  show ABr true _ _
  refine zYE (by decide) ?_
 show ALoop ..
 refine .next ?_
 show ABr false _ _
 refine zNO (by decide) ?_
 show ACall ..
 refine .hand [(_,16)] (zcL ([16]:List Int)) [.c (.own 16)] _ (.cons _ _ _ _ (.c _ _ (.own1 _ _)) .nil) (.old 16 _ _ _ _ rfl rfl (.data_eq rfl) .nil) rfl (zgd [16] (by decide)) ?_
 rintro H r ⟨rfl,l',rfl,hsr,_⟩ _ _
 have hl' : l' = [16]:=List.perm_singleton.1 hsr.perm
 refine⟨rfl,.inr ⟨rfl,rfl⟩,?_⟩
 show ARet ..
 exact⟨[(_,0)],[(0,.data .int ([16]:List Int))],[.c (.own 0)],.cons _ _ _ _ (.c _ _ (.own1 _ _)) .nil,.old 0 _ _ _ _ rfl rfl (.data_eq hl') .nil,rfl,rfl,rfl⟩
theorem zjo (k:Int) (l:List Int) (g:Nat) (cs:List DV) (hp:∀x∈l,Spec X g [] (.int x::zcS cs) (Ret [] (.bo false))) :
  Spec X 44 [(16,.vars [.d .nilsl])] [.int k,.c (.d (.sl .int l)),.c (.d (.fn g [] cs)),.c (.ptr 16 0 0)] (fun H r=>H=[(16,.vars [.d .nilsl])]/\r = .tup []):=by
 refine zGO X_ok Tryz.f44 fun hb hH=>⟨rfl,?_⟩
 have hll:l.length<=zA:=(hb (.c (.d (.sl .int l))) (by simp)).1
 unfold zA at hll
 show ∃n,_
 refine⟨0,ALoop.inv (ι:={i:Nat // i<=l.length}) (fun q=>⟨[(0,.int (k)),(2,(.c (.d (.fn g [] cs)))),(3,.c (.ptr 16 0 0)),(9,.c (.d (.sl .int (l)))),(10,.int ((l.length:Int))),(11,.int (q.1))],[(16,.vars [.d .nilsl])],64⟩) (fun q=>l.length-q.1) ⟨0,Nat.zero_le _⟩ ?_ ?_⟩
 ·exact⟨[(16,16)],(by repeat' first|exact .nil|refine .cons _ _ _ ?_ ?_|exact .c _ _ (.ptr _ _ _ _ rfl)|exact .same|exact .c _ _ (.own _ _ rfl)|exact .c _ _ (.ptr _ _ _ _ rfl)|exact .c _ _ (.frz _ _ rfl)|exact .any _),(by exact .old 16 16 _ _ _ rfl rfl (.vars _ _ (zb rfl)) .nil),(by rfl)⟩
 rintro⟨i,hi⟩
 show ABr (decide ((i:Int)<(l.length:Int))) _ _
 refine⟨fun h=>?_,fun h=>?_⟩
 ·have hlt:i<l.length:=by simpa using h
  have wi:IntKind.i64.wrap ((i:Int)+1)=((i+1:Nat):Int):=zP (i:=i) (by unfold zA;omega)
  show AOb ..
  refine⟨by exact⟨Int.natCast_nonneg _,Int.ofNat_lt.2 hlt⟩,?_⟩
  show ACall ..
  refine zks (hp _ (zcg hlt)) ?_
  refine zNO (by decide) ?_
  show ARound ..
  exact⟨⟨i+1,hlt⟩,(by dsimp only;omega),[(16,16)],(by repeat' first|exact .nil|refine .cons _ _ _ ?_ ?_|exact .int_eq wi|exact .c _ _ (.ptr _ _ _ _ rfl)|exact .same|exact .c _ _ (.own _ _ rfl)|exact .c _ _ (.ptr _ _ _ _ rfl)|exact .c _ _ (.frz _ _ rfl)|exact .any _),(by exact .old 16 16 _ _ _ rfl rfl (.vars _ _ (zb rfl)) .nil),(by rfl)⟩
 ·show ARet ..
  exact⟨[(16,16)],[(16,.vars [.d .nilsl])],[],.nil,.old 16 16 _ _ _ rfl rfl (.vars _ _ (zb rfl)) .nil,rfl,rfl,rfl⟩
theorem zn9:Spec X 47 [] (.int 16::zcS [.rp wA.cells]) (Ret [] (.bo false)):=by
 refine zGO X_ok Tryz.f47 fun hb hH=>⟨rfl,?_⟩
 show ACall ..
 refine za (zoQ) rfl ?_
 show ARet ..
 exact zg rfl ⟨rfl,rfl⟩
theorem zlp:Spec X 15 [] [hA.tv] (Ret [] (.c (.d (.sl .int ([16]:List Int))))):=by
 have h:=zhE hA zgg
 rw[vA2.1]at h
 exact h
theorem zp6:Spec X 24 [] [wA.tv] (Ret [] (.c (.d .nilsl))):=by
 refine zGO X_ok Tryz.f24 fun hb hH=>⟨rfl,?_⟩
 show ACall ..
 refine .mk _ zpf fun H r ⟨eH,er⟩ _ _=>⟨.inl rfl,?_⟩
 subst eH er
 show ACall ..
 refine .hand [(96,16)] [(16,.vars [.d .nilsl])] [.int 1,.c (.d (.sl .int ([16]:List Int))),.c (.d (.fn 46 [] [.rp wA.cells])),.c (.ptr 16 0 0)] _ (.cons _ _ _ _ .same (.cons _ _ _ _ (.c _ _ (.frz _ _ rfl)) (.cons _ _ _ _ (.c _ _ (.frz _ _ rfl)) (.cons _ _ _ _ (.c _ _ (.ptr _ _ _ _ rfl)) .nil)))) (.old 16 96 _ _ _ rfl rfl (.vars _ _ (zb rfl)) .nil) rfl (zjo 1 [16] 46 [.rp wA.cells] (fun x hx=>by cases hx with
  |head=>exact zrl
  |tail _ hx=>cases hx)) ?_
 rintro H r ⟨rfl,rfl⟩ _ _
 refine⟨rfl,.inr ⟨rfl,rfl⟩,?_⟩
 show ACall ..
 refine za (zlp) rfl ?_
 show ACall ..
 refine .hand [(96,16)] [(16,.vars [.d .nilsl])] [.int 2,.c (.d (.sl .int ([16]:List Int))),.c (.d (.fn 47 [] [.rp wA.cells])),.c (.ptr 16 0 0)] _ (.cons _ _ _ _ .same (.cons _ _ _ _ (.c _ _ (.d _)) (.cons _ _ _ _ (.c _ _ (.frz _ _ rfl)) (.cons _ _ _ _ (.c _ _ (.ptr _ _ _ _ rfl)) .nil)))) (.old 16 96 _ _ _ rfl rfl (.vars _ _ (zb rfl)) .nil) rfl (zjo 2 [16] 47 [.rp wA.cells] (fun x hx=>by cases hx with
  |head=>exact zn9
  |tail _ hx=>cases hx)) ?_
 rintro H r ⟨rfl,rfl⟩ _ _
 refine⟨rfl,.inr ⟨rfl,rfl⟩,?_⟩
 show ABr false _ _
 refine zNO (by decide) ?_
 show ACall ..
 refine .hand [(96,16)] [(16,.vars [.d .nilsl])] [.int 4,.c (.d (.sl .int ([0]:List Int))),.c (.d (.fn 52 [] [.rp wA.cells])),.c (.ptr 16 0 0)] _ (.cons _ _ _ _ .same (.cons _ _ _ _ (.c _ _ (.frz _ _ rfl)) (.cons _ _ _ _ (.c _ _ (.frz _ _ rfl)) (.cons _ _ _ _ (.c _ _ (.ptr _ _ _ _ rfl)) .nil)))) (.old 16 96 _ _ _ rfl rfl (.vars _ _ (zb rfl)) .nil) rfl (zjo 4 [0] 52 [.rp wA.cells] (fun x hx=>by cases hx with
  |head=>exact ztJ
  |tail _ hx=>cases hx)) ?_
 rintro H r ⟨rfl,rfl⟩ _ _
 refine⟨rfl,.inr ⟨rfl,rfl⟩,?_⟩
 show ARet ..
 exact zg rfl ⟨rfl,rfl⟩
theorem zhT {w:Wd} (h:zaP w=true):w.h.light:=Nat.le_trans (zmE (ze5 (zaG.1 h).2.2.2)) (by unfold zi;decide)
theorem zq1 (w:Wd) (h:zaP w=true):Spec X 15 [] [w.h.tv] (Ret [] (.c (.d (.sl .int (zaa w.h))))):=zhE w.h (zhT h)
theorem zqC:Spec X 7 [] [] (Ret [] (.bo true)):=by
 refine Spec.fz (zGO zlI Tryz.f7 fun hb hH=>⟨rfl,?_⟩)
 have m0:=zl1 vA.1
 have hF:=zsM vA.1 (e:=evA) (by decide)
 have r1:=zok m0.1 evA
 have hw1:runW (madeW 1 [[opA,opA]]) evA=w1A:=rfl
 have hu1:=vA.2.1
 have hl1:=vA.2.2.1
 have hr1:=zw5
 show ACall ..
 refine za ((zmB 1 [[opA,opA]]).uz) rfl ?_
 rw[vA.1]
 obtain⟨W0,hW⟩:∃W0,W0=madeW 1 [[opA,opA]]:=⟨_,rfl⟩
 rw[←hW]at m0 hF r1 hw1 ⊢
 show ACall ..
 refine za (zt9 W0 evA (by decide) (fun i _=>hF i)).uz rfl ?_
 obtain⟨w1,hw1'⟩:∃w1,w1=w1A:=⟨_,rfl⟩
 rw[←hw1']at hw1 hu1 hl1 hr1
 rw[hw1]at r1 ⊢
 show ACall ..
 refine za (zq1 w1 r1).uz rfl ?_
 show ACall ..
 refine za (zn1 w1 true (zkh r1 (by omega))).uz rfl ?_
 have r2:zaP (zbK w1 true)=true:=znU r1 _
 have l2:(zbK w1 true).log.length<=w1.log.length+1:=znj w1 _
 obtain⟨w2,hw2⟩:∃w2,w2=zbK w1 true:=⟨_,rfl⟩
 rw[←hw2]at hr1 r2 l2 ⊢
 show ACall ..
 refine za (zqb w2 400 r2 (by omega)).uz rfl ?_
 rw[hr1]
 have hlen:(((zaa w1.h).length:Int)==2)=true:=by rw[hu1];rfl
 show AIf ((((zaa w1.h).length:Int)==2)=true/\True) _ _
 refine⟨fun _=>?_,fun h=>absurd ⟨hlen,trivial⟩ h⟩
 show ACall ..
 refine za zlp.uz rfl ?_
 show AIf ..
 refine⟨fun _=>?_,fun h=>absurd ⟨(by decide),trivial⟩ h⟩
 show ACall ..
 refine za zp6.uz rfl ?_
 show ARet ..
 exact zg rfl ⟨rfl,rfl⟩
theorem zxE:Spec X 7 [] [] (Ret [] (.bo true)):=zqC
end Go.Abs
