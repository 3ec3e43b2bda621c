/- Walks and plain laws: WWorld4, WWorld5, WTop, WTopC, WTakeK, WTakeL, WKeepW, WHeapNew, WEpochK. -/
import Derived.Test.YtlankjlnnimdoaaGreatDoorPh
import Derived.Test.YtlankjlnnimdoaaGreatDoorPd
import Derived.Test.YtlankjlnnimdoaaGreatDoorPg
import Derived.Test.YtlankjlnnimdoaaGreatDoorPc
set_option linter.all false
namespace Go.Abs
open Go.Proofs Go.Proofs.YtlankjlnnimdoaaGreatDoor
set_option maxRecDepth 60000
set_option maxHeartbeats 4000000
theorem zve (w:Wd) (n:Int) (hF:w.Fit):Spec X 37 (rnH w) [.c (.ptr 16 0 0),.dagg (EK.enc .pair ⟨0,n⟩)] (fun H r=>(H=rnH (stepW w n)\/H=rnL (stepW w n))/\r = .int (zcA w n)):=by
 refine zGO X_ok Tryz.f37 fun hb hH=>⟨rfl,?_⟩
 refine zNO (by decide) ?_
 show ACall ..
 refine .hand [(16,16),(17,17),(18,18)] (rnH w) [.c (.ptr 16 0 0),.int n] _ (.cons _ _ _ _ (.c _ _ (.ptr _ _ _ _ rfl)) (.cons _ _ _ _ .same .nil)) (.old 16 16 _ _ _ rfl rfl (.vars _ _ (by repeat (first|exact .nil|refine .cons _ _ _ _ (.d _) ?_|refine .cons _ _ _ _ (.own _ _ rfl) ?_))) (.old 17 17 _ _ _ rfl rfl (.data_eq rfl) (.old 18 18 _ _ _ rfl rfl (.data_eq rfl) .nil))) rfl (zsZ w n hF) ?_
 rintro H r ⟨hH|hH,rfl⟩ _ _
 ·subst hH
  refine⟨rfl,.inl rfl,?_⟩
  generalize stepW w n=w'
  show ARet ..
  exact⟨[(16,16),(17,17),(18,18)],rnH (w'),[.int (zcA w n)],.cons _ _ _ _ .same .nil,.old 16 16 _ _ _ rfl rfl (.vars _ _ (by repeat (first|exact .nil|refine .cons _ _ _ _ (.d _) ?_|refine .cons _ _ _ _ (.own _ _ rfl) ?_))) (.old 17 17 _ _ _ rfl rfl (.data_eq rfl) (.old 18 18 _ _ _ rfl rfl (.data_eq rfl) .nil)),rfl,.inl rfl,rfl⟩
 ·subst hH
  refine⟨rfl,.inl rfl,?_⟩
  generalize stepW w n=w'
  show ARet ..
  exact⟨[(16,16),(17,17),(18,18),(1120,0)],rnL w',[.int (zcA w n)],.cons _ _ _ _ .same .nil,.old 16 16 _ _ _ rfl rfl (.vars _ _ (by repeat (first|exact .nil|refine .cons _ _ _ _ (.d _) ?_|refine .cons _ _ _ _ (.own _ _ rfl) ?_))) (.old 17 17 _ _ _ rfl rfl (.data_eq rfl) (.old 18 18 _ _ _ rfl rfl .dead (.old 0 1120 _ _ _ rfl rfl (.data_eq rfl) .nil))),rfl,.inr rfl,rfl⟩
theorem zu0 (w:Wd) (n:Int) (hF:w.Fit):Spec X 37 (rnH w) [.c (.ptr 16 0 0),.dagg (EK.enc .pair ⟨1,n⟩)] (fun H r=>H=rnF (colW w)/\r = .int 0):=by
 refine zGO X_ok Tryz.f37 fun hb hH=>⟨rfl,?_⟩
 refine zNO (by decide) ?_
 show ACall ..
 refine .hand [(16,16),(17,17),(18,18)] (rnH w) [.c (.ptr 16 0 0),.int n] _ (.cons _ _ _ _ (.c _ _ (.ptr _ _ _ _ rfl)) (.cons _ _ _ _ .same .nil)) (.old 16 16 _ _ _ rfl rfl (.vars _ _ (by repeat (first|exact .nil|refine .cons _ _ _ _ (.d _) ?_|refine .cons _ _ _ _ (.own _ _ rfl) ?_))) (.old 17 17 _ _ _ rfl rfl (.data_eq rfl) (.old 18 18 _ _ _ rfl rfl (.data_eq rfl) .nil))) rfl (zun w n hF) ?_
 rintro H r ⟨rfl,rfl⟩ _ _
 refine⟨rfl,.inl rfl,?_⟩
 generalize colW w=w'
 show ARet ..
 exact⟨[(16,16),(17,17),(18,18)],rnF (w'),[.int (0)],.cons _ _ _ _ .same .nil,.old 16 16 _ _ _ rfl rfl (.vars _ _ (by repeat (first|exact .nil|refine .cons _ _ _ _ (.d _) ?_|refine .cons _ _ _ _ (.own _ _ rfl) ?_))) (.old 17 17 _ _ _ rfl rfl .dead (.old 18 18 _ _ _ rfl rfl (.data_eq rfl) .nil)),rfl,rfl,rfl⟩
theorem zul (w:Wd) (n:Int):Spec X 37 (rnH w) [.c (.ptr 16 0 0),.dagg (EK.enc .pair ⟨2,n⟩)] (fun H r=>H=rnH (startW w false)/\r = .int (zay w.c)):=by
 refine zGO X_ok Tryz.f37 fun hb hH=>⟨rfl,?_⟩
 refine zNO (by decide) ?_
 show ACall ..
 refine .hand [(16,16),(17,17),(18,18)] (rnH w) [.c (.ptr 16 0 0),.int n] _ (.cons _ _ _ _ (.c _ _ (.ptr _ _ _ _ rfl)) (.cons _ _ _ _ .same .nil)) (.old 16 16 _ _ _ rfl rfl (.vars _ _ (by repeat (first|exact .nil|refine .cons _ _ _ _ (.d _) ?_|refine .cons _ _ _ _ (.own _ _ rfl) ?_))) (.old 17 17 _ _ _ rfl rfl (.data_eq rfl) (.old 18 18 _ _ _ rfl rfl (.data_eq rfl) .nil))) rfl (zpK w n) ?_
 rintro H r ⟨rfl,rfl⟩ _ _
 refine⟨rfl,.inl rfl,?_⟩
 generalize startW w false=w'
 show ARet ..
 exact⟨[(16,16),(17,17),(18,18)],rnH (w'),[.int (zay w.c)],.cons _ _ _ _ .same .nil,.old 16 16 _ _ _ rfl rfl (.vars _ _ (by repeat (first|exact .nil|refine .cons _ _ _ _ (.d _) ?_|refine .cons _ _ _ _ (.own _ _ rfl) ?_))) (.old 17 17 _ _ _ rfl rfl (.data_eq rfl) (.old 18 18 _ _ _ rfl rfl (.data_eq rfl) .nil)),rfl,rfl,rfl⟩
theorem zvl (w:Wd) (n:Int):Spec X 37 (rnH w) [.c (.ptr 16 0 0),.dagg (EK.enc .pair ⟨3,n⟩)] (fun H r=>H=rnH (startW w true)/\r = .int (zay w.c)):=by
 refine zGO X_ok Tryz.f37 fun hb hH=>⟨rfl,?_⟩
 refine zNO (by decide) ?_
 show ACall ..
 refine .hand [(16,16),(17,17),(18,18)] (rnH w) [.c (.ptr 16 0 0),.int n] _ (.cons _ _ _ _ (.c _ _ (.ptr _ _ _ _ rfl)) (.cons _ _ _ _ .same .nil)) (.old 16 16 _ _ _ rfl rfl (.vars _ _ (by repeat (first|exact .nil|refine .cons _ _ _ _ (.d _) ?_|refine .cons _ _ _ _ (.own _ _ rfl) ?_))) (.old 17 17 _ _ _ rfl rfl (.data_eq rfl) (.old 18 18 _ _ _ rfl rfl (.data_eq rfl) .nil))) rfl (zpT w n) ?_
 rintro H r ⟨rfl,rfl⟩ _ _
 refine⟨rfl,.inl rfl,?_⟩
 generalize startW w true=w'
 show ARet ..
 exact⟨[(16,16),(17,17),(18,18)],rnH (w'),[.int (zay w.c)],.cons _ _ _ _ .same .nil,.old 16 16 _ _ _ rfl rfl (.vars _ _ (by repeat (first|exact .nil|refine .cons _ _ _ _ (.d _) ?_|refine .cons _ _ _ _ (.own _ _ rfl) ?_))) (.old 17 17 _ _ _ rfl rfl (.data_eq rfl) (.old 18 18 _ _ _ rfl rfl (.data_eq rfl) .nil)),rfl,rfl,rfl⟩
theorem zuh (w:Wd) (n:Int) (hF:w.Fit):Spec X 37 (rnH w) [.c (.ptr 16 0 0),.dagg (EK.enc .pair ⟨4,n⟩)] (fun H r=>H=rnH (beginW w n)/\r = .int (beginWE w n)):=by
 refine zGO X_ok Tryz.f37 fun hb hH=>⟨rfl,?_⟩
 refine zNO (by decide) ?_
 show ACall ..
 refine .hand [(16,16),(17,17),(18,18)] (rnH w) [.c (.ptr 16 0 0),.int n] _ (.cons _ _ _ _ (.c _ _ (.ptr _ _ _ _ rfl)) (.cons _ _ _ _ .same .nil)) (.old 16 16 _ _ _ rfl rfl (.vars _ _ (by repeat (first|exact .nil|refine .cons _ _ _ _ (.d _) ?_|refine .cons _ _ _ _ (.own _ _ rfl) ?_))) (.old 17 17 _ _ _ rfl rfl (.data_eq rfl) (.old 18 18 _ _ _ rfl rfl (.data_eq rfl) .nil))) rfl (zpH w n hF) ?_
 rintro H r ⟨rfl,rfl⟩ _ _
 refine⟨rfl,.inl rfl,?_⟩
 generalize beginW w n=w'
 generalize beginWE w n=e'
 show ARet ..
 exact⟨[(16,16),(17,17),(18,18)],rnH (w'),[.int (e')],.cons _ _ _ _ .same .nil,.old 16 16 _ _ _ rfl rfl (.vars _ _ (by repeat (first|exact .nil|refine .cons _ _ _ _ (.d _) ?_|refine .cons _ _ _ _ (.own _ _ rfl) ?_))) (.old 17 17 _ _ _ rfl rfl (.data_eq rfl) (.old 18 18 _ _ _ rfl rfl (.data_eq rfl) .nil)),rfl,rfl,rfl⟩
theorem zuI (w:Wd) (k:Nat) (n:Int):Spec X 37 (rnH w) [.c (.ptr 16 0 0),.dagg (EK.enc .pair ⟨Int.ofNat (k+5),n⟩)] (fun H r=>H=rnH w/\r = .int 1):=by
 refine zGO X_ok Tryz.f37 fun hb hH=>⟨rfl,?_⟩
 refine zYE (by decide) ?_
 show ARet ..
 exact⟨[(16,16),(17,17),(18,18)],rnH (w),[.int (1)],.cons _ _ _ _ .same .nil,.old 16 16 _ _ _ rfl rfl (.vars _ _ (by repeat (first|exact .nil|refine .cons _ _ _ _ (.d _) ?_|refine .cons _ _ _ _ (.own _ _ rfl) ?_))) (.old 17 17 _ _ _ rfl rfl (.data_eq rfl) (.old 18 18 _ _ _ rfl rfl (.data_eq rfl) .nil)),rfl,rfl,rfl⟩
theorem zvq (w:Wd) (k:Nat) (n:Int):Spec X 37 (rnH w) [.c (.ptr 16 0 0),.dagg (EK.enc .pair ⟨Int.negSucc k,n⟩)] (fun H r=>H=rnH w/\r = .int 1):=by
 refine zGO X_ok Tryz.f37 fun hb hH=>⟨rfl,?_⟩
 refine zYE (by decide) ?_
 show ARet ..
 exact⟨[(16,16),(17,17),(18,18)],rnH (w),[.int (1)],.cons _ _ _ _ .same .nil,.old 16 16 _ _ _ rfl rfl (.vars _ _ (by repeat (first|exact .nil|refine .cons _ _ _ _ (.d _) ?_|refine .cons _ _ _ _ (.own _ _ rfl) ?_))) (.old 17 17 _ _ _ rfl rfl (.data_eq rfl) (.old 18 18 _ _ _ rfl rfl (.data_eq rfl) .nil)),rfl,rfl,rfl⟩
theorem zne (w:Wd) (e:Pair) (hF:w.Fit) (h1:e.fst≠1):Spec X 37 (rnH w) [.c (.ptr 16 0 0),.dagg (EK.enc .pair e)] (fun H r=>(H=rnH (doW1 w e)\/H=rnL (doW1 w e))/\r = .int (doE1 w e)):=by
 obtain⟨k,n⟩:=e
 have h1:k≠1:=h1
 by_cases h0:k=0
 ·subst h0
  exact zve w n hF
 ·by_cases h2:k=2
  ·subst h2
   exact Spec.weaken (zul w n) fun H r ⟨h,h'⟩=>⟨.inl h,h'⟩
  ·by_cases h3:k=3
   ·subst h3
    exact Spec.weaken (zvl w n) fun H r ⟨h,h'⟩=>⟨.inl h,h'⟩
   ·by_cases h4:k=4
    ·subst h4
     exact Spec.weaken (zuh w n hF) fun H r ⟨h,h'⟩=>⟨.inl h,h'⟩
    ·have e1:doW1 w ⟨k,n⟩=w:=by unfold doW1;rw[if_neg h0,if_neg h1,if_neg h2,if_neg h3,if_neg h4]
     have e2:doE1 w ⟨k,n⟩=1:=by unfold doE1;rw[if_neg h0,if_neg h1,if_neg h2,if_neg h3,if_neg h4]
     rw[e1,e2]
     cases k with
     |negSucc k=>exact Spec.weaken (zvq w k n) fun H r ⟨h,h'⟩=>⟨.inl h,h'⟩
     |ofNat k=>
      obtain⟨j,rfl⟩:∃j,k=j+5:=⟨k-5,by
       have a0:k≠0:=fun h=>h0 (by rw[h];rfl)
       have a1:k≠1:=fun h=>h1 (by rw[h];rfl)
       have a2:k≠2:=fun h=>h2 (by rw[h];rfl)
       have a3:k≠3:=fun h=>h3 (by rw[h];rfl)
       have a4:k≠4:=fun h=>h4 (by rw[h];rfl)
       omega⟩
      exact Spec.weaken (zuI w j n) fun H r ⟨h,h'⟩=>⟨.inl h,h'⟩
theorem zwB (w:Wd) (e:Pair) (hF:w.Fit):Spec X 37 (rnH w) [.c (.ptr 16 0 0),.dagg (EK.enc .pair e)] (fun H r=>(H=rnH (doW1 w e)\/H=rnF (doW1 w e)\/H=rnL (doW1 w e))/\r = .int (doE1 w e)):=by
 obtain⟨k,n⟩:=e
 by_cases h1:k=1
 ·subst h1
  exact Spec.weaken (zu0 w n hF) fun H r ⟨h,h'⟩=>⟨.inr (.inl h),h'⟩
 ·exact Spec.weaken (zne w ⟨k,n⟩ hF h1) fun H r ⟨h,h'⟩=>⟨h.elim .inl fun h=>.inr (.inr h),h'⟩
theorem zd9 (w:Wd) (e:Pair) (hF:w.Fit):Spec X 18 [] [w.tv,.dagg (EK.enc .pair e)] (Ret [] (.tup [(doW w e).tv,.int (doWE w e)])):=by
 refine zGO X_ok Tryz.f18 fun hb hH=>⟨rfl,?_⟩
 show ACall ..
 refine .mk _ (zho w hF) fun H r ⟨eH,er⟩ _ _=>⟨.inl rfl,?_⟩
 subst eH er
 show ACall ..
 refine za (zjQ w (fun t ht=>(hF.th t ht).1) (fun _=>hF.flat)) rfl ?_
 unfold doW doWE
 cases hm:zQ w with
 |false=>
  refine zYE (by decide) ?_
  show ARet ..
  refine⟨[],[],[(w).tv,.int (1)],.cons _ _ _ _ (.agg _ _ ?_) (.cons _ _ _ _ .same .nil),.nil,rfl,rfl,rfl⟩
  repeat (first|exact .nil|refine .cons _ _ _ _ (.d _) ?_|refine .cons _ _ _ _ (.frz _ _ rfl) ?_)
 |true=>
  rw[if_pos rfl,if_pos rfl]
  refine zNO (by decide) ?_
  show ACall ..
  refine .hand [(256,16),(192,17),(193,18)] (rnH w) [.c (.ptr 16 0 0),.dagg (EK.enc .pair e)] _ (.cons _ _ _ _ (.c _ _ (.ptr _ _ _ _ rfl)) (.cons _ _ _ _ (.agg _ _ (zb rfl)) .nil)) (.old 16 256 _ _ _ rfl rfl (.vars _ _ (by repeat (first|exact .nil|refine .cons _ _ _ _ (.d _) ?_|refine .cons _ _ _ _ (.own _ _ rfl) ?_))) (.old 17 192 _ _ _ rfl rfl (.data_eq rfl) (.old 18 193 _ _ _ rfl rfl (.data_eq rfl) .nil))) rfl (zwB w e hF) ?_
  rintro H r ⟨hH|hH|hH,rfl⟩ _ _
  ·subst hH
   refine⟨rfl,.inl rfl,?_⟩
   generalize doW1 w e=w'
   generalize doE1 w e=e'
   show ARet ..
   refine⟨[],[],[(w').tv,.int (e')],.cons _ _ _ _ (.agg _ _ ?_) (.cons _ _ _ _ .same .nil),.nil,rfl,rfl,rfl⟩
   repeat (first|exact .nil|refine .cons _ _ _ _ (.d _) ?_|refine .cons _ _ _ _ (.frz _ _ rfl) ?_)
  ·subst hH
   refine⟨rfl,.inl rfl,?_⟩
   generalize doW1 w e=w'
   generalize doE1 w e=e'
   show ARet ..
   refine⟨[],[],[(w').tv,.int (e')],.cons _ _ _ _ (.agg _ _ ?_) (.cons _ _ _ _ .same .nil),.nil,rfl,rfl,rfl⟩
   repeat (first|exact .nil|refine .cons _ _ _ _ (.d _) ?_|refine .cons _ _ _ _ (.frz _ _ rfl) ?_)
  ·subst hH
   refine⟨rfl,.inl rfl,?_⟩
   generalize doW1 w e=w'
   generalize doE1 w e=e'
   show ARet ..
   refine⟨[],[],[(w').tv,.int (e')],.cons _ _ _ _ (.agg _ _ ?_) (.cons _ _ _ _ .same .nil),.nil,rfl,rfl,rfl⟩
   repeat (first|exact .nil|refine .cons _ _ _ _ (.d _) ?_|refine .cons _ _ _ _ (.frz _ _ rfl) ?_)
def zvo (l:List (List Op)) (x:List Op):Bool:=decide (4<l.length\/200<x.length)
abbrev thO (o:List Op):Thread:={Thread.zero with ops:=o}
theorem zjJ (n:Int) (l:List (List Op)):Spec X 17 [] [.int n,.c (.d (.sl .opss l))] (Ret [] (.tup [(madeW n l).tv,.int (zca n l)])):=by
 refine zGO X_ok Tryz.f17 fun hb hH=>⟨rfl,?_⟩
 have hll:l.length<=zE:=(hb (.c (.d (.sl .opss l))) (by simp)).1
 unfold zE at hll
 show ACall ..
 refine za (znN n) rfl ?_
 show ABr (newE n != 0) _ _
 unfold madeW zca
 by_cases he:newE n≠0
 ·rw[if_pos he,if_pos he,show(newE n != 0)=true by simpa using he]
  refine zYE (by decide) ?_
  generalize newE n=e'
  show ARet ..
  refine⟨[],[],[(Wd.zero).tv,.int (e')],.cons _ _ _ _ (.agg _ _ ?_) (.cons _ _ _ _ .same .nil),.nil,rfl,rfl,rfl⟩
  repeat (first|exact .nil|refine .cons _ _ _ _ (.d _) ?_|refine .cons _ _ _ _ (.nilsl _) ?_|refine .cons _ _ _ _ (.frz _ _ rfl) ?_)
 ·rw[if_neg he,if_neg he,show(newE n != 0)=false by simpa using he]
  refine zNO (by decide) ?_
  generalize newH n=g
  obtain⟨B,hB⟩:∃B,B=l.any (zvo l):=⟨_,rfl⟩
  rw[show(l.any fun x=>decide (4<l.length\/200<x.length))=B from hB.symm]
  show ∃n,_
  refine⟨0,ALoop.inv (ι:={i:Nat // i<=l.length/\∀j,j<i->zvo l (l.getD j default)=false}) (fun q=>⟨[(1,(.c (.d (.sl .opss l)))),(4,.c (.ptr 0 0 0)),(8,.c (.ptr 1 0 0)),(22,(.c (.d (.sl .opss l)))),(23,.int ((l.length:Int))),(24,.int (q.1))],[(0,.vars (List.replicate 18 .any)),(1,.vars ((g.enc++Wd.zero.c.enc).map CV.d++[.own 2,.d (.sl .res [])])),(2,.data .thread ((l.take q.1).map thO))],128⟩) (fun q=>l.length-q.1) ⟨0,Nat.zero_le _,fun j hj=>absurd hj (Nat.not_lt_zero j)⟩ ?_ ?_⟩
  ·exact⟨[(32,0),(480,1)],(by repeat' first|exact .nil|refine .cons _ _ _ ?_ ?_|exact .c _ _ (.ptr _ _ _ _ rfl)|exact .same|exact .c _ _ (.own _ _ rfl)|exact .c _ _ (.ptr _ _ _ _ rfl)|exact .c _ _ (.frz _ _ rfl)|exact .any _),(by exact .old 0 32 _ _ _ rfl rfl (.vars _ _ (by repeat (first|exact .nil|refine .cons _ _ _ _ (.any _) ?_))) (.old 1 480 _ _ _ rfl rfl (.vars _ _ (by repeat (first|exact .nil|refine .cons _ _ _ _ (.d _) ?_|refine .cons _ _ _ _ (.nilown _ .thread rfl rfl) ?_|refine .cons _ _ _ _ (.nilsl _) ?_))) (.new 2 .thread _ rfl .nil))),(by rfl)⟩
  rintro⟨i,hi,hg⟩
  show ABr (decide ((i:Int)<(l.length:Int))) _ _
  refine⟨fun h=>?_,fun h=>?_⟩
  ·have hlt:i<l.length:=by simpa using h
   have wi:IntKind.i64.wrap ((i:Int)+1)=((i+1:Nat):Int):=zad (i:=i) (by unfold zE;omega)
   show AOb ..
   refine⟨by exact⟨Int.natCast_nonneg _,Int.ofNat_lt.2 hlt⟩,?_⟩
   show ABr (bif decide ((l.length:Int)>4) then true else decide (((l.getD i default).length:Int)>200)) _ _
   have hbb:(bif decide ((l.length:Int)>4) then true else decide (((l.getD i default).length:Int)>200))=zvo l (l.getD i default):=by
    unfold zvo
    by_cases h4:4<l.length
    ·rw[decide_eq_true (show(l.length:Int)>4 by omega),decide_eq_true (show 4<l.length\/200<(l.getD i default).length from .inl h4)];rfl
    ·rw[decide_eq_false (show ¬(l.length:Int)>4 by omega)]
     show decide _=decide _
     rw[decide_eq_decide]
     omega
   rw[hbb]
   cases hx:zvo l (l.getD i default) with
   |true=>
    have hBt:B=true:=by rw[hB];exact List.any_eq_true.2 ⟨_,zdM hlt,hx⟩
    rw[if_pos hBt,if_pos hBt]
    refine zYE (by decide) ?_
    show ARet ..
    refine⟨[],[],[(Wd.zero).tv,.int (2)],.cons _ _ _ _ (.agg _ _ ?_) (.cons _ _ _ _ .same .nil),.nil,rfl,rfl,rfl⟩
    repeat (first|exact .nil|refine .cons _ _ _ _ (.d _) ?_|refine .cons _ _ _ _ (.nilsl _) ?_|refine .cons _ _ _ _ (.frz _ _ rfl) ?_)
   |false=>
    have hx':=of_decide_eq_false hx
    refine zNO (by decide) ?_
    show ADCall ..
    refine .mk _ _ (zck (l.getD i default) (by unfold zk;omega)) rfl ?_
    show AOb (((l.take i).map thO).length+1<=zk) _
    refine⟨by rw[List.length_map,List.length_take];unfold zk;omega,?_⟩
    have hnext:∀j,j<i+1->zvo l (l.getD j default)=false:=fun j hj=>by
     rcases Nat.lt_succ_iff_lt_or_eq.1 hj with h' | rfl
     ·exact hg j h'
     ·exact hx
    show ARound ..
    exact⟨⟨i+1,hlt,hnext⟩,(by dsimp only;omega),[(0,0),(1,1),(704,2)],(by repeat' first|exact .nil|refine .cons _ _ _ ?_ ?_|exact .c _ _ (.ptr _ _ _ _ rfl)|exact .int_eq wi|exact .same|exact .c _ _ (.own _ _ rfl)|exact .c _ _ (.ptr _ _ _ _ rfl)|exact .c _ _ (.frz _ _ rfl)|exact .any _),(by exact .old 0 0 _ _ _ rfl rfl (.vars _ _ (by repeat (first|exact .nil|refine .cons _ _ _ _ (.any _) ?_))) (.old 1 1 _ _ _ rfl rfl (.vars _ _ (by repeat (first|exact .nil|refine .cons _ _ _ _ (.d _) ?_|refine .cons _ _ _ _ (.own _ _ rfl) ?_))) (.old 2 704 _ _ _ rfl rfl (.data_eq (ziW thO hlt).symm) .nil))),(by rfl)⟩
  ·have hie:i=l.length:=by simp at h;omega
   have hBf:B=false:=by
    rw[hB,List.any_eq_false]
    intro x hx
    obtain⟨j,hj,e⟩:=List.mem_iff_getElem.1 hx
    have:=hg j (by omega)
    rw[show l.getD j default=x from by rw[List.getD_eq_getElem?_getD,List.getElem?_eq_getElem hj,e];rfl]at this
    rw[this]
    decide
   rw[if_neg (by rw[hBf];decide),if_neg (by rw[hBf];decide)]
   have hm:l.map thO=(l.take i).map thO:=by rw[hie,List.take_length]
   rw[hm]
   show ARet ..
   refine⟨[],[],[((⟨g,Wd.zero.c,(l.take i).map thO,[]⟩:Wd)).tv,.int (0)],.cons _ _ _ _ (.agg _ _ ?_) (.cons _ _ _ _ .same .nil),.nil,rfl,rfl,rfl⟩
   repeat (first|exact .nil|refine .cons _ _ _ _ (.d _) ?_|refine .cons _ _ _ _ (.nilsl _) ?_|refine .cons _ _ _ _ (.frz _ _ rfl) ?_)
def zfp (l:List (List Op)) (e:List Pair) (m:Int):Bool:=decide (l.length<=4)&&(decide ((e.length:Int)<=m)&&l.all fun x=>decide (x.length<=60))
theorem zoM (l:List (List Op)) (e:List Pair) (m:Int):Spec X 8 [] [.c (.d (.sl .opss l)),.c (.d (.sl .pair e)),.int m] (Ret [] (.bo (zfp l e m))):=by
 refine zGO X_ok Tryz.f8 fun hb hH=>⟨rfl,?_⟩
 unfold zfp
 show ABr (bif decide ((l.length:Int)>4) then true else decide ((e.length:Int)>m)) _ _
 by_cases h4:l.length<=4
 ·rw[decide_eq_false (show ¬(l.length:Int)>4 by omega),decide_eq_true h4]
  by_cases hm:(e.length:Int)<=m
  ·rw[show(bif false then true else decide ((e.length:Int)>m))=false from decide_eq_false (by omega),decide_eq_true hm]
   refine zNO (by decide) ?_
   show ∃n,_
   refine⟨0,ALoop.inv (ι:={i:Nat // i<=l.length/\∀j,j<i->(l.getD j default).length<=60}) (fun q=>⟨[(0,(.c (.d (.sl .opss l)))),(7,.int (q.1))],[],64⟩) (fun q=>l.length-q.1) ⟨0,Nat.zero_le _,fun j hj=>absurd hj (Nat.not_lt_zero j)⟩ ?_ ?_⟩
   ·exact⟨[],(by repeat' first|exact .nil|refine .cons _ _ _ ?_ ?_|exact .same|exact .c _ _ (.own _ _ rfl)|exact .c _ _ (.ptr _ _ _ _ rfl)|exact .c _ _ (.frz _ _ rfl)|exact .any _),(by exact .nil),(by rfl)⟩
   rintro⟨i,hi,hg⟩
   show ABr (decide ((i:Int)<(l.length:Int))) _ _
   refine⟨fun h=>?_,fun h=>?_⟩
   ·have hlt:i<l.length:=by simpa using h
    have wi:IntKind.i64.wrap ((i:Int)+1)=((i+1:Nat):Int):=zad (i:=i) (by unfold zE;omega)
    show AOb ..
    refine⟨by exact⟨Int.natCast_nonneg _,Int.ofNat_lt.2 hlt⟩,?_⟩
    show ABr (decide (((l.getD i default).length:Int)>60)) _ _
    by_cases hx:(l.getD i default).length<=60
    ·rw[decide_eq_false (show ¬((l.getD i default).length:Int)>60 by omega)]
     refine zNO (by decide) ?_
     show ARound ..
     exact⟨⟨i+1,hlt,fun j hj=>(Nat.lt_succ_iff_lt_or_eq.1 hj).elim (hg j) (fun k=>k▸hx)⟩,(by dsimp only;omega),[],(by repeat' first|exact .nil|refine .cons _ _ _ ?_ ?_|exact .int_eq wi|exact .same|exact .c _ _ (.own _ _ rfl)|exact .c _ _ (.ptr _ _ _ _ rfl)|exact .c _ _ (.frz _ _ rfl)|exact .any _),(by exact .nil),(by rfl)⟩
    ·rw[decide_eq_true (show((l.getD i default).length:Int)>60 by omega)]
     refine zYE (by decide) ?_
     show ARet ..
     refine zt (x:=false) ?_ ⟨rfl,rfl⟩
     symm
     show(l.all fun x=>decide (x.length<=60))=false
     rw[List.all_eq_false]
     exact⟨_,zdM hlt,by simpa using hx⟩
   ·have hie:i=l.length:=by simp at h;omega
    show ARet ..
    refine zt (x:=true) ?_ ⟨rfl,rfl⟩
    symm
    show(l.all fun x=>decide (x.length<=60))=true
    rw[List.all_eq_true]
    intro x hx
    obtain⟨j,hj,e⟩:=List.mem_iff_getElem.1 hx
    have:=hg j (by omega)
    rw[show l.getD j default=x from by rw[List.getD_eq_getElem?_getD,List.getElem?_eq_getElem hj,e];rfl]at this
    exact decide_eq_true this
  ·rw[show(bif false then true else decide ((e.length:Int)>m))=true from decide_eq_true (by omega),decide_eq_false hm]
   refine zYE (by decide) ?_
   show ARet ..
   exact zi rfl ⟨rfl,rfl⟩
 ·rw[decide_eq_true (show(l.length:Int)>4 by omega),decide_eq_false h4]
  show ABr true _ _
  refine zYE (by decide) ?_
  show ARet ..
  exact zi rfl ⟨rfl,rfl⟩
theorem ziF (w:Wd) (m:Bool) (hF:w.Fit):Spec X 13 [] [w.tv,.bo m] (Ret [] (zal w m).tv):=by
 refine zGO X_ok Tryz.f13 fun hb hH=>⟨rfl,?_⟩
 unfold zal
 show ABr m _ _
 cases m with
 |true=>
  refine zYE (by decide) ?_
  show ACall ..
  refine za (zd9 w ⟨3,0⟩ hF) rfl ?_
  rw[if_pos rfl]
  generalize doW w ⟨3,0⟩=w'
  show ARet ..
  refine⟨[],[],[(w').tv],.cons _ _ _ _ (.agg _ _ ?_) .nil,.nil,rfl,rfl,rfl⟩
  repeat (first|exact .nil|refine .cons _ _ _ _ (.d _) ?_|refine .cons _ _ _ _ (.nilsl _) ?_|refine .cons _ _ _ _ (.frz _ _ rfl) ?_)
 |false=>
  refine zNO (by decide) ?_
  show ACall ..
  refine za (zd9 w ⟨2,0⟩ hF) rfl ?_
  rw[if_neg (by decide)]
  generalize doW w ⟨2,0⟩=w'
  show ARet ..
  refine⟨[],[],[(w').tv],.cons _ _ _ _ (.agg _ _ ?_) .nil,.nil,rfl,rfl,rfl⟩
  repeat (first|exact .nil|refine .cons _ _ _ _ (.d _) ?_|refine .cons _ _ _ _ (.nilsl _) ?_|refine .cons _ _ _ _ (.frz _ _ rfl) ?_)
theorem zyw {ρ:List (Nat×Nat)} {h h' : zg} {k:EK} {l l' : List k.T} (e:l=l'):LeT ρ h h' (.c (.d (.sl k l))) (.c (.d (.sl k l'))):=e▸.c _ _ (.d _)
theorem zu8 (w:Wd) (l:List Pair) (hl:l.length<=20000) (hF:∀i,i<=l.length->(runW w (l.take i)).Fit):Spec X 23 [] [w.tv,.c (.d (.sl .pair l))] (Ret [] (.tup [(runW w l).tv,.any])):=by
 refine zGO X_ok Tryz.f23 fun hb hH=>⟨rfl,?_⟩
 show ACall ..
 refine .mk _ (zho w (hF 0 (Nat.zero_le _))) fun H r ⟨eH,er⟩ _ _=>⟨.inl rfl,?_⟩
 subst eH er
 have hmn:(if (20000:Int)<(l.length:Int) then (20000:Int) else (l.length:Int))=(l.length:Int):=if_neg (by omega)
 show AOb ((0:Int)<=(if (20000:Int)<(l.length:Int) then (20000:Int) else (l.length:Int))/\(if (20000:Int)<(l.length:Int) then (20000:Int) else (l.length:Int))<=_) _
 refine⟨⟨by omega,by rw[hmn];exact Int.le_refl _⟩,?_⟩
 have hcut:l.take (if (20000:Int)<(l.length:Int) then (20000:Int) else (l.length:Int)).toNat=l:=by rw[hmn];exact List.take_length
 show ∃n,_
 refine⟨0,ALoop.inv (ι:={q:Nat×List Int // q.1<=l.length/\q.2.length=q.1}) (fun q=>⟨[(2,.c (.ptr 0 0 0)),(4,.c (.ptr 1 0 0)),(6,.c (.own 2)),(17,(.c (.d (.sl .pair l)))),(18,.int ((l.length:Int))),(19,.int ((q.1.1:Int)))],[(0,.vars ((runW w (l.take q.1.1)).cells.map .d)),(1,.vars (List.replicate 18 .any)),(2,.data .int q.1.2)],128⟩) (fun q=>l.length-q.1.1) ⟨(0,[]),Nat.zero_le _,rfl⟩ ?_ ?_⟩
 ·exact⟨[(32,0),(64,1)],(by repeat' first|exact .nil|refine .cons _ _ _ ?_ ?_|exact .c _ _ (.ptr _ _ _ _ rfl)|exact .c _ _ (.nilown 2 .int rfl rfl)|exact zyw (k:=.pair) hcut|exact .int_eq hmn|exact .int_eq (congrArg (fun x:List Pair=>(x.length:Int)) hcut)|exact .same|exact .c _ _ (.own _ _ rfl)|exact .c _ _ (.ptr _ _ _ _ rfl)|exact .c _ _ (.frz _ _ rfl)|exact .any _),(by exact .old 0 32 _ _ _ rfl rfl (.vars _ _ (by repeat (first|exact .nil|refine .cons _ _ _ _ (.d _) ?_|refine .cons _ _ _ _ (.frz _ _ rfl) ?_))) (.old 1 64 _ _ _ rfl rfl (.vars _ _ (by repeat (first|exact .nil|refine .cons _ _ _ _ (.any _) ?_))) (.new 2 .int _ rfl .nil))),(by rfl)⟩
 rintro⟨⟨i,es⟩,hi,he⟩
 show ABr (decide ((i:Int)<(l.length:Int))) _ _
 refine⟨fun h=>?_,fun h=>?_⟩
 ·have hlt:i<l.length:=by simpa using h
  have wi:IntKind.i64.wrap ((i:Int)+1)=((i+1:Nat):Int):=zad (i:=i) (by unfold zE;omega)
  show AOb ..
  refine⟨by exact⟨Int.natCast_nonneg _,Int.ofNat_lt.2 hlt⟩,?_⟩
  show ACall ..
  refine za (zd9 (runW w (l.take i)) (l.getD i default) (hF i (Nat.le_of_lt hlt))) rfl ?_
  show AOb (es.length+1<=zk) _
  refine⟨by have:es.length=i:=he;unfold zk;omega,?_⟩
  have hn:=zn8 w hlt
  generalize doWE (runW w (l.take i)) (l.getD i default)=x
  rw[←hn]
  have hE:(es++[x]).length=i+1:=by rw[List.length_append,show es.length=i from he];rfl
  show ARound ..
  exact⟨⟨(i+1,es++[x]),hlt,hE⟩,(by dsimp only;omega),[(0,0),(1,1),(736,2)],(by repeat' first|exact .nil|refine .cons _ _ _ ?_ ?_|exact .c _ _ (.ptr _ _ _ _ rfl)|exact .int_eq wi|exact .same|exact .c _ _ (.own _ _ rfl)|exact .c _ _ (.ptr _ _ _ _ rfl)|exact .c _ _ (.frz _ _ rfl)|exact .any _),(by exact .old 0 0 _ _ _ rfl rfl (.vars _ _ (by repeat (first|exact .nil|refine .cons _ _ _ _ (.d _) ?_))) (.old 1 1 _ _ _ rfl rfl (.vars _ _ (by repeat (first|exact .nil|refine .cons _ _ _ _ (.any _) ?_))) (.old 2 736 _ _ _ rfl rfl (.data_eq rfl) .nil))),(by rfl)⟩
 ·have hie:i=l.length:=by simp at h;omega
  have hm:runW w l=runW w (l.take i):=by rw[hie,List.take_length]
  rw[hm]
  generalize runW w (l.take i)=w'
  show ARet ..
  refine⟨[],[],[w'.tv,.any],.cons _ _ _ _ (.agg _ _ ?_) (.cons _ _ _ _ (.any _) .nil),.nil,rfl,rfl,rfl⟩
  repeat (first|exact .nil|refine .cons _ _ _ _ (.d _) ?_)
end Go.Abs
namespace Go.Abs
set_option maxRecDepth 8000
theorem zx0 (w:Wd) (e:Pair):(doW w e).t.length=w.t.length:=by
 unfold doW
 split
 ·unfold doW1
  split
  ·unfold stepW
   split
   ·rfl
   ·split
    ·rfl
    ·split<;>exact List.length_set
  ·split
   ·rfl
   ·split
    ·unfold startW;split<;>rfl
    ·split
     ·unfold startW;split<;>rfl
     ·split
      ·unfold beginW
       split
       ·rfl
       ·split
        ·rfl
        ·exact List.length_set
      ·rfl
 ·rfl
def zJ (w:Wd):Nat->Wd
 |0=>w
 |k+1=>doW (zJ w k) ⟨0,(k:Int)⟩
def zbc (w:Wd):Wd:=doW (zJ w w.t.length) ⟨1,0⟩
def roundsW:Nat->Wd->Wd
 |0,w=>w
 |k+1,w=>if w.c.phase≠0 then roundsW k (zbc w) else w
theorem zeu (w:Wd):∀k,(zJ w k).t.length=w.t.length
 |0=>rfl
 |k+1=>(zx0 _ _).trans (zeu w k)
theorem zbz {g:Hp} (hm:zx g []=true) (u:Int):headE g u=if ze g.pages u≠0/\zf g u≠0 then 0 else 3:=by
 by_cases hr:ze g.pages u≠0
 ·have hc:=(zai hm).2.2.1 u (zw.2 hr)
  unfold zaC at hc
  rw[Bool.and_eq_true]at hc
  have hu:=zi4 hc.1
  unfold headE
  rw[hm,decide_eq_false hr,hu]
  by_cases h0:zf g u=0
  ·rw[if_neg (fun k=>k.2 h0),h0];rfl
  ·rw[if_pos ⟨hr,h0⟩,(bne_iff_ne (a:=zf g u) (b:=0)).2 h0];rfl
 ·rw[if_neg (fun k=>hr k.1)]
  unfold headE
  rw[hm,decide_eq_true (Classical.not_not.1 hr)]
  rfl
theorem zo4 {g k:Hp} (hg:zx g []=true) (hk:zx k []=true) {u:Int} (h:ze g.pages u≠0->zf g u≠0->ze k.pages u≠0/\zf k u=zf g u)
  (h' : ze k.pages u≠0->zf k u≠0->ze g.pages u≠0/\zf g u≠0):headE k u=headE g u/\headH k u=headH g u:=by
 have e1:=zbz hg u
 have e2:=zbz hk u
 by_cases q:ze g.pages u≠0/\zf g u≠0
 ·obtain⟨h1,h2⟩:=h q.1 q.2
  rw[if_pos q]at e1
  rw[if_pos ⟨h1,by rw[h2];exact q.2⟩]at e2
  exact⟨e2.trans e1.symm,by rw[zaA e1,zaA e2,h2]⟩
 ·rw[if_neg q]at e1
  rw[if_neg fun k=>q (h' k.1 k.2)]at e2
  exact⟨e2.trans e1.symm,by rw[zb3 e1 (by decide),zb3 e2 (by decide)]⟩
theorem zew {g:Hp} {a v u:Int} (hs:zC g=true) (ha:ze g.pages a≠0) (hu:16<=u):zf (zbH g a v) u=if u=a then v else if a<=u/\u<a+ze g.pages a then 0 else zf g u:=by
 obtain⟨_,_,hl,_⟩:=zl hs
 obtain⟨z2,z3,z4⟩:=zas (zz ha)
 have z2:16<=a:=z2
 have z3:0<ze g.pages a:=z3
 have z4:a+ze g.pages a<=16*((g.pages.length:Int)+1):=z4
 show at0 ((zK g.w (a-16).toNat (List.replicate (ze g.pages a).toNat (0:Int))).set (a-16).toNat v) (u-16).toNat=_
 have hlen:(zK g.w (a-16).toNat (List.replicate (ze g.pages a).toNat (0:Int))).length=g.w.length:=by
  unfold zK;simp;omega
 rw[zlb (by rw[hlen];omega)]
 by_cases e:u=a
 ·rw[if_pos e,if_pos (by rw[e])]
 ·rw[if_neg e,if_neg (by omega)]
  unfold zK zf
  rw[zhs,zhs]
  simp only[List.length_append,List.length_take,List.length_replicate]
  by_cases c1:u<a
  ·rw[if_pos (by omega),if_pos (by omega),if_neg (by omega),zjd _ _ _ (by omega)]
  ·by_cases c2:u<a+ze g.pages a
   ·rw[if_pos (by omega),if_neg (by omega),if_pos ⟨by omega,c2⟩]
    unfold at0
    rw[List.getD_eq_getElem?_getD,List.getElem?_replicate]
    split<;>rfl
   ·rw[if_neg (by omega),if_neg (by omega),zi9]
    congr 1
    omega
theorem zj2 {g:Hp} {a v:Int} (hs:zC g=true) (ha:ze g.pages a≠0):(zbH g a v).w.length=g.w.length:=by
 obtain⟨_,_,hl,_⟩:=zl hs
 obtain⟨z2,z3,z4⟩:=zas (zz ha)
 have z2:16<=a:=z2
 have z4:a+ze g.pages a<=16*((g.pages.length:Int)+1):=z4
 unfold zbH zK;simp;omega
theorem zo9 {g:Hp} {a v:Int} (hs:zC g=true) (ha:ze g.pages a≠0):zC (zbH g a v)=true:=by
 have hl:=zj2 (v:=v) hs ha
 unfold zC zbo at hs ⊢
 rw[hl]
 exact hs
theorem zgr {g:Hp} {a v u f:Int} (hs:zC g=true) (ha:ze g.pages a≠0) (hu:ze g.pages u≠0) (hne:u≠a) (hf:0<=f/\f<ze g.pages u):zf (zbH g a v) (u+f)=zf g (u+f):=by
 have z:=(zas (zz hu)).1
 have z:16<=u:=z
 have z3:=(zas (zz ha)).2.1
 have z3:0<ze g.pages a:=z3
 have ap:=zwk ha hu hne hf
 rw[zew hs ha (by omega),if_neg (by omega),if_neg ap]
theorem zb1 {g:Hp} {a v u:Int} (hs:zC g=true) (ha:ze g.pages a≠0) (hu:ze g.pages u≠0):zf (zbH g a v) u=if u=a then v else zf g u:=by
 by_cases e:u=a
 ·rw[if_pos e,zew hs ha (by have:=(zas (zz hu)).1;exact this),if_pos e]
 ·rw[if_neg e]
  have:=zgr (v:=v) hs ha hu e (f:=0) ⟨Int.le_refl _,(zas (zz hu)).2.1⟩
  rwa [Int.add_zero]at this
theorem zkP {g:Hp} {cs:List Lists} {a:Int} {x:Hd} (hs:zC g=true) (ha:ze g.pages a≠0) (hx:x.May) (hu:x.used=true) (hf:zjj (zO g a) x.n=true)
  (hl:∀l∈g.free::cs,zaf g l=true) (hc:∀u∈cellStarts g.pages,u≠a->zaC g u=true/\(zf g u≠0\/u∈zn (g.free::cs))) (hn:(zn (g.free::cs)).Nodup) (hna:a ∉ zn (g.free::cs)) :
  zq (zbH g a x.word) cs=true:=by
 have hm:zx (zbH g a x.word) cs=true:=by
  refine zdr (zo9 hs ha) (fun l hll=>zF.2 fun d h0 h2 y hy=>?_) (fun u hu'=>?_) hn
  ·have k:=zF.1 (hl l hll) d h0 h2 y hy
   obtain⟨k1,k2,k3⟩:=(of_decide_eq_true k:0<ze g.pages y/\zO g y=⟨1,d⟩/\zf g y=0)
   refine decide_eq_true ⟨k1,k2,?_⟩
   rw[zb1 hs ha (by omega),if_neg,k3]
   rintro rfl
   exact hna (zcM.2 ⟨l,hll,zbq.2 ⟨d,h0,h2,hy⟩⟩)
  ·have hu' : u∈cellStarts g.pages:=hu'
   have hw:=zb1 (v:=x.word) hs ha (zw.1 hu')
   show(zjM (zf (zbH g a x.word) u)&&(bif (unp (zf (zbH g a x.word) u)).used then zjj (zO g u) (unp (zf (zbH g a x.word) u)).n else decide ((zO g u).kind=1)))=true
   rw[hw]
   by_cases e:u=a
   ·rw[if_pos e,(zco hx).1,(zco hx).2,hu,e]
    exact hf
   ·rw[if_neg e]
    exact(hc u hu' e).1
 unfold zq
 rw[hm,Bool.true_and,List.all_eq_true]
 intro u hu'
 have hu' : u∈cellStarts g.pages:=hu'
 rw[zb1 hs ha (zw.1 hu'),Bool.or_eq_true]
 by_cases e:u=a
 ·rw[if_pos e]
  exact .inl (by simpa using ziO hx hu)
 ·rw[if_neg e]
  rcases (hc u hu' e).2 with k|k
  ·exact .inl (by simpa using k)
  ·exact .inr (List.contains_iff_mem.2 k)
theorem zW {g:Hp} {cs:List Lists} (h:zq g cs=true):zx g cs=true:=by
 unfold zq at h;rw[Bool.and_eq_true]at h;exact h.1
theorem zcL {g:Hp} {cs:List Lists} (h:zq g cs=true) {u:Int} (hu:u∈cellStarts g.pages):zf g u≠0\/u∈zn (g.free::cs):=by
 unfold zq at h
 rw[Bool.and_eq_true,List.all_eq_true]at h
 have:=h.2 u hu
 rw[Bool.or_eq_true]at this
 rcases this with k|k
 ·exact .inl (by simpa using k)
 ·exact .inr (List.contains_iff_mem.1 k)
theorem zqL:∀(L w:List Int),(∀a∈L,16<=a/\(a-16).toNat<w.length)->∀u:Int,16<=u->at0 (zcW w L) (u-16).toNat=if u∈L then 0 else at0 w (u-16).toNat
 |[],w,_,u,_=>by rw[if_neg (by simp)];rfl
 |a::r,w,h,u,hu=>by
  obtain⟨a1,a2⟩:=h a (List.mem_cons_self ..)
  unfold zcW
  rw[zqL r _ (fun b hb=>by rw[List.length_set];exact h b (List.mem_cons_of_mem _ hb)) u hu,zlb a2]
  by_cases e:u∈r
  ·rw[if_pos e,if_pos (List.mem_cons_of_mem _ e)]
  ·rw[if_neg e]
   by_cases e2:a=u
   ·subst e2;rw[if_pos rfl,if_pos (List.mem_cons_self ..)]
   ·rw[if_neg (by omega),if_neg (fun k=>(List.mem_cons.1 k).elim (fun q=>e2 q.symm) e)]
theorem zxH {l:Lists} {c:Int} (hc:0<=c/\c<=2) (X:List Int):(l.set_ c (l.at_ c++X)).flat.Perm (X++l.flat):=by
 have:c=0\/c=1\/c=2:=by omega
 rw[List.perm_iff_count]
 intro y
 rcases this with rfl|rfl|rfl
 ·show List.count y ((l.l0++X)++l.l1++l.l2)=List.count y (X++(l.l0++l.l1++l.l2))
  simp only[List.count_append];omega
 ·show List.count y (l.l0++(l.l1++X)++l.l2)=List.count y (X++(l.l0++l.l1++l.l2))
  simp only[List.count_append];omega
 ·show List.count y (l.l0++l.l1++(l.l2++X))=List.count y (X++(l.l0++l.l1++l.l2))
  simp only[List.count_append];omega
structure Objs (g k:Hp):Prop where
 headE:∀u,Abs.headE k u=Abs.headE g u
 headH:∀u,Abs.headH k u=Abs.headH g u
 word:∀u,Abs.headE g u=0->∀f,0<=f->f<ze g.pages u->zf k (u+f)=zf g (u+f)
 room:∀u,Abs.headE g u=0->ze k.pages u=ze g.pages u
 cards:k.cards=g.cards
 plen:k.pages.length=g.pages.length
theorem Objs.refl (g:Hp):Objs g g:=⟨fun _=>rfl,fun _=>rfl,fun _ _ _ _ _=>rfl,fun _ _=>rfl,rfl,rfl⟩
theorem zoR {l:List Page} {i n:Nat} (h:zaq l n i=true) {u:Int} (hu:ze l u≠0):¬((i:Int)<=u / 16-1/\u / 16-1<(i:Int)+n):=by
 rintro⟨h1,h2⟩
 obtain⟨_,j,hj⟩:=zap (zz hu)
 have e:u / 16-1=(j:Int):=hj.div
 obtain⟨_,hz⟩:=zaB.1 h
 have:=hz (j-i) (by omega)
 rw[show i+(j-i)=j by omega]at this
 rcases hj.kind with k|k
 ·have:=k.1;omega
 ·have:=k.1;omega
theorem zie {g:Hp} {cs:List Lists} {k:Int} (hw:zq g cs=true) (hk:0<=k/\k<=2):zq (zL g k) cs=true/\Objs g (zL g k):=by
 have hm:=zW hw
 obtain⟨m1,m2,m3,m4⟩:=zai hm
 obtain⟨s1,s2,s3,s4,s5,s6⟩:=zl m1
 cases hf:zaO g.pages 1 with
 |none=>rw[(zaP hf k).1];exact⟨hw,.refl g⟩
 |some i=>
  obtain⟨hfr,hil⟩:=za7 hf
  rw[(zaQ hf k).1]
  obtain⟨P,hP⟩:∃P,P=zbk g.pages i [⟨1,k⟩]:=⟨_,rfl⟩
  have hp' : zar P=true:=by rw[hP];exact zhA s2 hfr hk
  have hlen' : P.length=g.pages.length:=by rw[hP];exact zc0 rfl hfr
  have hcells:∀x,x∈cellsAll P↔x∈cellsAll g.pages\/∃j,i<=j/\j<i+1/\x∈zD (([⟨1,k⟩]:List Page).getD (j-i) default) (16*((j:Int)+1)):=fun x=>by
   rw[hP];exact zjG (n:=1) (X:=[⟨1,k⟩]) s2 rfl hfr (by rw[←hP];exact hp')
  have hget:∀j,P.getD j default=if i<=j/\j<i+1 then ([⟨1,k⟩]:List Page).getD (j-i) default else g.pages.getD j default:=fun j=>by
   rw[hP];exact zf4 (n:=1) (X:=[⟨1,k⟩]) rfl hfr j
  have hgi:P.getD i default=⟨1,k⟩:=by
   rw[hget,if_pos ⟨Nat.le_refl _,by omega⟩,Nat.sub_self];rfl
  rw[←hP]
  have hpi:zbv (P.getD i default):=(zab hp').1 i (by rw[hlen'];exact hil)
  obtain⟨N,hN⟩:∃N,startsOn P i=N:=⟨_,rfl⟩
  rw[hN]
  have hNin:∀a∈N,16*((i:Int)+1)<=a/\a<16*((i:Int)+1)+16:=fun a ha=>zcE hpi (hN▸ha)
  have hNr:∀a∈N,ze P a≠0:=fun a ha=>zgJ hp' (by omega) (hN▸ha)
  have hst:∀u,u∈cellStarts P↔u∈cellStarts g.pages\/u∈N:=by
   intro u
   unfold cellStarts
   rw[List.mem_map,List.mem_map]
   constructor
   ·rintro⟨x,hx,rfl⟩
    rcases (hcells x).1 hx with h|⟨j,j1,j2,hx⟩
    ·exact .inl ⟨x,h,rfl⟩
    ·have:j=i:=by omega
     subst this
     refine .inr ?_
     rw[←hN]
     unfold startsOn
     rw[hgi]
     rw[Nat.sub_self]at hx
     exact List.mem_map.2 ⟨x,hx,rfl⟩
   ·rintro (⟨x,hx,rfl⟩|h)
    ·exact⟨x,(hcells x).2 (.inl hx),rfl⟩
    ·rw[←hN]at h
     unfold startsOn at h
     rw[hgi]at h
     obtain⟨x,hx,rfl⟩:=List.mem_map.1 h
     exact⟨x,(hcells x).2 (.inr ⟨i,Nat.le_refl _,by omega,by rw[Nat.sub_self];exact hx⟩),rfl⟩
  have hold:∀u,ze g.pages u≠0->u / 16-1≠(i:Int):=fun u hu e=>zoR hfr hu ⟨by omega,by omega⟩
  have hroom:∀u,ze g.pages u≠0->ze P u=ze g.pages u:=fun u hu=>zbA (x:=(u,ze g.pages u)) ((hcells _).2 (.inl (zz hu)))
  have holdN:∀u,ze g.pages u≠0->u ∉ N:=fun u hu h=>by have:=hNin u h;have:=hold u hu;omega
  have hwl:∀a∈N.reverse,16<=a/\(a-16).toNat<g.w.length:=fun a ha=>by have:=hNin a (List.mem_reverse.1 ha);omega
  have hpage:∀u,ze g.pages u≠0->P.getD (u / 16-1).toNat default=g.pages.getD (u / 16-1).toNat default:=fun u hu=>by
   rw[hget,if_neg]
   have:=hold u hu
   have:=(zas (zz hu)).1
   have:16<=u:=this
   omega
  have hpageN:∀u∈N,P.getD (u / 16-1).toNat default=⟨1,k⟩:=fun u hu=>by
   have:=hNin u hu
   rw[show(u / 16-1).toNat=i by omega];exact hgi
  obtain⟨K,hK⟩:∃K:Hp,K=⟨zcW g.w N.reverse,P,g.free.set_ k (g.free.at_ k++N.reverse),g.cards⟩:=⟨_,rfl⟩
  rw[←hK]
  have hword:∀u,16<=u->zf K u=if u∈N then 0 else zf g u:=by
   intro u hu
   rw[hK]
   show at0 (zcW g.w N.reverse) (u-16).toNat=_
   rw[zqL _ _ hwl u hu]
   simp only[List.mem_reverse]
   rfl
  have hw0:∀u,ze g.pages u≠0->zf K u=zf g u:=fun u hu=>by
   rw[hword u (by have:=(zas (zz hu)).1;exact this),if_neg (holdN u hu)]
  have hwf:∀u,ze g.pages u≠0->∀f,0<=f->f<ze g.pages u->zf K (u+f)=zf g (u+f):=by
   intro u hu f f0 f1
   have z:=(zas (zz hu)).1
   have z:16<=u:=z
   rw[hword _ (by omega),if_neg]
   intro hin
   have h1:(u,ze P u)∈cellsAll P:=zz (by rw[hroom u hu];exact hu)
   have h2:(u+f,ze P (u+f))∈cellsAll P:=zz (hNr _ hin)
   have hpos:=(zas h2).2.1
   have hpos:0<ze P (u+f):=hpos
   have:=zmz h1 h2 (p:=u+f) ⟨by show u<=u+f;omega,by show u+f<u+ze P u;rw[hroom u hu];omega⟩ ⟨by show u+f<=u+f;omega,by show u+f<u+f+_;omega⟩
   have e:u=u+f:=congrArg Prod.fst this
   rw[←e]at hin
   exact holdN u hu hin
  have hperm:(zn (K.free::cs)).Perm (N.reverse++zn (g.free::cs)):=by
   rw[hK]
   show((g.free.set_ k (g.free.at_ k++N.reverse)).flat++zn cs).Perm (N.reverse++(g.free.flat++zn cs))
   rw[←List.append_assoc]
   exact(zxH hk _).append_right _
  have hNn:N.Nodup:=by
   have hs:=zdv P
   have hsub:N.Sublist (cellStarts P):=by
    rw[←hN]
    unfold startsOn cellStarts
    refine List.Sublist.map _ ?_
    unfold cellsAll
    rw[if_pos hp']
    unfold zae
    rw[List.drop_zero]
    rw[show List.range P.length=List.range i++(List.range (P.length-i)).map (i+·) from by
     rw[←List.range_add];congr 1;omega]
    rw[List.flatMap_append]
    refine List.Sublist.trans ?_ (List.sublist_append_right _ _)
    rw[show P.length-i=(P.length-i-1)+1 by omega,List.range_succ_eq_map,List.map_cons,List.flatMap_cons]
    exact List.sublist_append_left _ _
   exact(hs.sublist hsub).imp (fun h=>by omega)
  have hmem:∀y∈zn (g.free::cs),ze g.pages y≠0:=by
   intro y hy
   obtain⟨l,hl,hy⟩:=zcM.1 hy
   have:=(zdI (m2 l hl) hy).1
   omega
  have hnd:(zn (K.free::cs)).Nodup:=by
   rw[hperm.nodup_iff,List.nodup_append]
   refine⟨(List.reverse_perm N).nodup_iff.2 hNn,m4,fun y hy z hz e=>?_⟩
   subst e
   exact holdN y (hmem y hz) (List.mem_reverse.1 hy)
  have hfree:∀d y,zau g d y=true->zau K d y=true:=by
   intro d y h
   obtain⟨h1,h2,h3⟩:=(of_decide_eq_true h:0<ze g.pages y/\zO g y=⟨1,d⟩/\zf g y=0)
   have hr:ze g.pages y≠0:=by omega
   have hp:=hpage y hr
   refine decide_eq_true ⟨?_,?_,by rw[hw0 y hr];exact h3⟩
   ·show 0<ze K.pages y
    rw[hK];show 0<ze P y;rw[hroom y hr];exact h1
   ·rw[hK];show P.getD (y / 16-1).toNat default=_;rw[hp];exact h2
  have hfreeN:∀y∈N,zau K k y=true:=by
   intro y hy
   have:=hNin y hy
   have hr:=hNr y hy
   have hps:=(zas (zz hr)).2.1
   refine decide_eq_true ⟨?_,?_,by rw[hword y (by omega),if_pos hy]⟩
   ·rw[hK];exact hps
   ·rw[hK];exact hpageN y hy
  have hKm:zx K cs=true:=by
   refine zdr ?_ (fun l hl=>zF.2 fun d d0 d2 y hy=>?_) (fun u hu=>?_) hnd
   ·rw[hK]
    unfold zC zbo
    show(decide ((zcW g.w N.reverse).length % 16=0/\_)&&_)=true
    simp only[zea,hlen',hp']
    rw[Bool.true_and]
    unfold zbo at s1
    rw[s1,decide_eq_true ⟨s3,s4⟩]
    rfl
   ·rcases List.mem_cons.1 hl with rfl|hl
    ·have hy' : y∈(g.free.set_ k (g.free.at_ k++N.reverse)).at_ d:=by rw[hK]at hy;exact hy
     rw[ze9 hk ⟨d0,d2⟩]at hy'
     by_cases e:d=k
     ·rw[if_pos e]at hy'
      rcases List.mem_append.1 hy' with h|h
      ·rw[e];exact hfree k y (zF.1 (m2 g.free (List.mem_cons_self ..)) k hk.1 hk.2 y h)
      ·rw[e];exact hfreeN y (List.mem_reverse.1 h)
     ·rw[if_neg e]at hy'
      exact hfree d y (zF.1 (m2 g.free (List.mem_cons_self ..)) d d0 d2 y hy')
    ·exact hfree d y (zF.1 (m2 l (List.mem_cons_of_mem _ hl)) d d0 d2 y hy)
   ·have hu:u∈cellStarts P:=by rw[hK]at hu;exact hu
    have hpg:zO K u=P.getD (u / 16-1).toNat default:=by rw[hK];rfl
    unfold zaC
    rw[hpg]
    rcases (hst u).1 hu with h|h
    ·have hr:=zw.1 h
     rw[hw0 u hr,hpage u hr]
     exact m3 u h
    ·have:=hNin u h
     rw[hword u (by omega),if_pos h,hpageN u h]
     rfl
  have hKw:zq K cs=true:=by
   unfold zq
   rw[hKm,Bool.true_and,List.all_eq_true]
   intro u hu
   have hu:u∈cellStarts P:=by rw[hK]at hu;exact hu
   rw[Bool.or_eq_true]
   rcases (hst u).1 hu with h|h
   ·rcases zcL hw h with q|q
    ·exact .inl (by rw[hw0 u (zw.1 h)];simpa using q)
    ·exact .inr (List.contains_iff_mem.2 (hperm.mem_iff.2 (List.mem_append_right _ q)))
   ·exact .inr (List.contains_iff_mem.2 (hperm.mem_iff.2 (List.mem_append_left _ (List.mem_reverse.2 h))))
  have hroomK:∀u,ze g.pages u≠0->ze K.pages u=ze g.pages u:=fun u hu=>by rw[hK];exact hroom u hu
  have hh:∀u,headE K u=headE g u/\headH K u=headH g u:=fun u=>zo4 (zcd hm) (zcd hKm)
   (fun h1 h2=>⟨by rw[hroomK u h1];exact h1,hw0 u h1⟩) (fun h1 h2=>by
    have h1:ze P u≠0:=by rw[hK]at h1;exact h1
    rcases (hst u).1 (zw.2 h1) with h|h
    ·have hr:=zw.1 h
     exact⟨hr,by rw[←hw0 u hr];exact h2⟩
    ·have:=hNin u h
     rw[hword u (by omega),if_pos h]at h2
     exact absurd rfl h2)
  refine⟨hKw,fun u=>(hh u).1,fun u=>(hh u).2,fun u hu f f0 f1=>hwf u (zU hu).2.1 f f0 f1,fun u hu=>hroomK u (zU hu).2.1,by rw[hK],?_⟩
  rw[hK];exact hlen'
structure Took (g k:Hp) (a:Int) (x:Hd):Prop where
 used:Abs.headE g a≠0
 self:Abs.headE k a=0/\Abs.headH k a=x
 head:∀u,u≠a->Abs.headE k u=Abs.headE g u/\Abs.headH k u=Abs.headH g u
 word:∀u,Abs.headE g u=0->∀f,0<=f->f<ze g.pages u->zf k (u+f)=zf g (u+f)
 room:∀u,Abs.headE g u=0->ze k.pages u=ze g.pages u
 zero:∀f,1<=f->f<ze k.pages a->zf k (a+f)=0
 cards:k.cards=g.cards
 plen:k.pages.length=g.pages.length
 wlen:k.w.length=g.w.length
theorem Took.pre {g m k:Hp} {a:Int} {x:Hd} (h:Objs g m) (hl:m.w.length=g.w.length) (t:Took m k a x):Took g k a x:=
 ⟨by rw[←h.headE];exact t.used,t.self,fun u hu=>by rw[←h.headE,←h.headH];exact t.head u hu,
  fun u hu f f0 f1=>(t.word u (by rw[h.headE];exact hu) f f0 (by rw[h.room u hu];exact f1)).trans (h.word u hu f f0 f1),
  fun u hu=>(t.room u (by rw[h.headE];exact hu)).trans (h.room u hu),t.zero,t.cards.trans h.cards,t.plen.trans h.plen,t.wlen.trans hl⟩
theorem znp {g:Hp} {C F' C' : Lists} {cs:List Lists} {a k:Int} {x:Hd} (hw:zq g (C::cs)=true) (hk:0<=k/\k<=2) (ha:zau g k a=true) (hx:x.May) (hu:x.used=true) (hn:zaM x.n=0/\clsOf x.n=k)
  (hF:∀d:Int,0<=d->d<=2->∀y∈F'.at_ d,y∈g.free.at_ d\/y∈C.at_ d) (hC:∀d:Int,0<=d->d<=2->∀y∈C'.at_ d,y∈g.free.at_ d\/y∈C.at_ d)
  (hp:(a::zn (F'::C'::cs)).Perm (zn (g.free::C::cs))) :
  zq (zbH {g with free:=F'} a x.word) (C'::cs)=true/\Took g (zbH {g with free:=F'} a x.word) a x:=by
 have hm:=zW hw
 obtain⟨m1,m2,m3,m4⟩:=zai hm
 obtain⟨a1,a2,a3⟩:=(of_decide_eq_true ha:0<ze g.pages a/\zO g a=⟨1,k⟩/\zf g a=0)
 have har:ze g.pages a≠0:=by omega
 obtain⟨G,hG⟩:∃G:Hp,G={g with free:=F'}:=⟨_,rfl⟩
 rw[←hG]
 have gp:G.pages=g.pages:=by rw[hG]
 have gw:∀u,zf G u=zf g u:=fun u=>by rw[hG];rfl
 have gpa:∀u,zO G u=zO g u:=fun u=>by rw[hG];rfl
 have gs:zC G=true:=by rw[hG];exact m1
 have gr:ze G.pages a≠0:=by rw[gp];exact har
 have gf:G.free=F':=by rw[hG]
 have gfree:∀d y,zau G d y=zau g d y:=fun d y=>by rw[hG];rfl
 have gcell:∀u,zaC G u=zaC g u:=fun u=>by rw[hG];rfl
 have hnd:=(hp.nodup_iff).2 m4
 rw[List.nodup_cons]at hnd
 have hlist:∀l:Lists,(∀d:Int,0<=d->d<=2->∀y∈l.at_ d,y∈g.free.at_ d\/y∈C.at_ d)->zaf G l=true:=fun l h=>
  zF.2 fun d d0 d2 y hy=>by
   rw[gfree]
   rcases h d d0 d2 y hy with q|q
   ·exact zF.1 (m2 g.free (List.mem_cons_self ..)) d d0 d2 y q
   ·exact zF.1 (m2 C (List.mem_cons_of_mem _ (List.mem_cons_self ..))) d d0 d2 y q
 have hwk:zq (zbH G a x.word) (C'::cs)=true:=by
  refine zkP gs gr hx hu ?_ (fun l hl=>?_) (fun u hu' hne=>?_) (by rw[gf];exact hnd.2) (by rw[gf];exact hnd.1)
  ·rw[gpa,a2]
   unfold zjj
   rw[decide_eq_false (show ¬(1:Int)=2 by decide)]
   exact decide_eq_true hn
  ·rw[gf]at hl
   rcases List.mem_cons.1 hl with rfl|hl
   ·exact hlist _ hF
   ·rcases List.mem_cons.1 hl with rfl|hl
    ·exact hlist _ hC
    ·have:=m2 l (List.mem_cons_of_mem _ (List.mem_cons_of_mem _ hl))
     rw[hG];exact this
  ·rw[gp]at hu'
   rw[gcell,gw,gf]
   refine⟨m3 u hu',?_⟩
   rcases zcL hw hu' with q|q
   ·exact .inl q
   ·rcases List.mem_cons.1 (hp.mem_iff.2 q) with q|q
    ·exact absurd q hne
    ·exact .inr q
 refine⟨hwk,?_⟩
 have hkm:=zcd (zW hwk)
 have hgm:=zcd hm
 have hself:headE (zbH G a x.word) a=0:=by
  rw[zbz hkm]
  have e:=zb1 (v:=x.word) gs gr gr
  rw[if_pos rfl]at e
  rw[if_pos ⟨gr,by rw[e];exact ziO hx hu⟩]
 refine⟨?_,⟨hself,?_⟩,fun u hne=>?_,fun u hu' f f0 f1=>?_,fun u hu'=>by show ze G.pages u=_;rw[gp],fun f f1 f2=>?_,by rw[hG];rfl,by rw[hG];rfl,?_⟩
 ·rw[zbz hgm,if_neg (fun q=>q.2 a3)];decide
 ·have e:=zb1 (v:=x.word) gs gr gr
  rw[if_pos rfl]at e
  rw[zaA hself,e,(zco hx).1]
 ·refine zo4 hgm hkm (fun h1 h2=>?_) (fun h1 h2=>?_)
  ·rw[zb1 gs gr (by rw[gp];exact h1),if_neg hne,gw]
   exact⟨by show ze G.pages u≠0;rw[gp];exact h1,rfl⟩
  ·have h1:ze G.pages u≠0:=h1
   rw[zb1 gs gr h1,if_neg hne,gw]at h2
   exact⟨by rw[←gp];exact h1,h2⟩
 ·have hr:=(zU hu').2.1
  have hne:u≠a:=fun e=>by rw[e]at hu';exact zhm hm hu' a3
  rw[zgr gs gr (by rw[gp];exact hr) hne ⟨f0,by rw[gp];exact f1⟩,gw]
 ·have f2:f<ze G.pages a:=f2
  have z:=(zas (zz gr)).1
  have z:16<=a:=z
  rw[zew gs gr (by omega),if_neg (by omega),if_pos ⟨by omega,by omega⟩]
 ·rw[zj2 gs gr,hG]
theorem zs1 {g:Hp} {cs:List Lists} {x:Hd} (hw:zq g cs=true) (hx:x.May) (hu:x.used=true) (hn:zaM x.n=0/\clsOf x.n=3) (he:zbZ g x.n=0) :
  zq (zbH (zaK g x.n) (za0 g x.n) x.word) cs=true/\Took g (zbH (zaK g x.n) (za0 g x.n) x.word) (za0 g x.n) x:=by
 have hm:=zW hw
 obtain⟨m1,m2,m3,m4⟩:=zai hm
 obtain⟨s1,s2,s3,s4,s5,s6⟩:=zl m1
 obtain⟨_,_,_,_,c5⟩:=zka hn.1
 obtain⟨r1,r2,r3⟩:=c5 hn.2
 obtain⟨m,em⟩:∃m:Nat,zaV x.n=(m:Int):=⟨(zaV x.n).toNat,by omega⟩
 cases hf:zcu g x.n with
 |none=>rw[(zev hf).2.2]at he;cases he
 |some i=>
  obtain⟨e1,e2,_⟩:=zef hf
  unfold zcu at hf
  rw[em]at hf e1
  have hf:zaO g.pages m=some i:=hf
  obtain⟨hfr,hil⟩:=za7 hf
  have hXl:((⟨2,(m:Int)⟩:Page)::List.replicate (m-1) ⟨3,0⟩).length=m:=by simp;omega
  rw[e1,e2]
  obtain⟨Y,hY⟩:∃Y:List Page,Y=⟨2,(m:Int)⟩::List.replicate (m-1) ⟨3,0⟩:=⟨_,rfl⟩
  have hYl:Y.length=m:=by rw[hY];exact hXl
  show zq (zbH {g with pages:=zbk g.pages i (⟨2,(m:Int)⟩::List.replicate (m-1) ⟨3,0⟩)} (16*((i:Int)+1)) x.word) cs=true/\Took g (zbH {g with pages:=zbk g.pages i (⟨2,(m:Int)⟩::List.replicate (m-1) ⟨3,0⟩)} (16*((i:Int)+1)) x.word) (16*((i:Int)+1)) x
  obtain⟨P,hP⟩:∃P,P=zbk g.pages i Y:=⟨_,rfl⟩
  rw[←hY,←hP]
  have hp' : zar P=true:=by rw[hP,hY];exact zki s2 hfr (by omega) (by omega)
  have hlen' : P.length=g.pages.length:=by rw[hP];exact zc0 hYl hfr
  have hcells:∀y,y∈cellsAll P↔y∈cellsAll g.pages\/∃j,i<=j/\j<i+m/\y∈zD (Y.getD (j-i) default) (16*((j:Int)+1)):=fun y=>by
   rw[hP];exact zjG s2 hYl hfr (by rw[←hP];exact hp')
  have hget:∀j,P.getD j default=if i<=j/\j<i+m then Y.getD (j-i) default else g.pages.getD j default:=fun j=>by
   rw[hP];exact zf4 hYl hfr j
  have hgi:P.getD i default=⟨2,m⟩:=by
   rw[hget,if_pos ⟨Nat.le_refl _,by omega⟩,Nat.sub_self,hY];rfl
  have hnew:∀y:Int×Int,(∃j,i<=j/\j<i+m/\y∈zD (Y.getD (j-i) default) (16*((j:Int)+1)))↔y=(16*((i:Int)+1),(m:Int)*16):=by
   intro y
   rw[hY]
   constructor
   ·rintro⟨j,j1,j2,hy⟩
    by_cases e:j=i
    ·subst e
     rw[Nat.sub_self]at hy
     have hy:y∈zD ⟨2,(m:Int)⟩ (16*((j:Int)+1)):=hy
     unfold zD at hy
     rw[if_pos rfl]at hy
     exact List.mem_singleton.1 hy
    ·rw[show j-i=(j-i-1)+1 by omega,List.getD_cons_succ,List.getD_eq_getElem?_getD,List.getElem?_replicate,if_pos (by omega)]at hy
     have hy:y∈zD ⟨3,0⟩ (16*((j:Int)+1)):=hy
     unfold zD at hy
     rw[if_neg (show ¬(3:Int)=2 by decide),if_neg (show ¬(3:Int)=1 by decide)]at hy
     cases hy
   ·rintro rfl
    refine⟨i,Nat.le_refl _,by omega,?_⟩
    rw[Nat.sub_self]
    show _∈zD ⟨2,(m:Int)⟩ _
    unfold zD
    rw[if_pos rfl]
    exact List.mem_singleton_self _
  obtain⟨a,ha⟩:∃a:Int,a=16*((i:Int)+1):=⟨_,rfl⟩
  rw[←ha]
  rw[←ha]at hnew
  have har:ze P a=m*16:=zbA (x:=(a,(m:Int)*16)) ((hcells _).2 (.inr ((hnew _).2 rfl)))
  have har0:ze P a≠0:=by rw[har];omega
  have hst:∀u,ze P u≠0->u≠a->ze g.pages u≠0:=fun u hu' hne=>by
   rcases (hcells _).1 (zz hu') with q|q
   ·exact zw.1 (List.mem_map.2 ⟨_,q,rfl⟩)
   ·exact absurd (congrArg Prod.fst ((hnew _).1 q)) hne
  have hroom:∀u,ze g.pages u≠0->ze P u=ze g.pages u:=fun u hu'=>zbA (x:=(u,ze g.pages u)) ((hcells _).2 (.inl (zz hu')))
  have hold:∀u,ze g.pages u≠0->¬((i:Int)<=u / 16-1/\u / 16-1<(i:Int)+m):=fun u hu'=>zoR hfr hu'
  have hna:∀u,ze g.pages u≠0->u≠a:=fun u hu' e=>hold u hu' ⟨by omega,by omega⟩
  have har1:ze g.pages a=0:=Classical.byContradiction fun q=>hna a q rfl
  have hpage:∀u,ze g.pages u≠0->P.getD (u / 16-1).toNat default=g.pages.getD (u / 16-1).toNat default:=fun u hu'=>by
   have:=hold u hu'
   have:=(zas (zz hu')).1
   have:16<=u:=this
   rw[hget,if_neg (by omega)]
  obtain⟨G,hG⟩:∃G:Hp,G={g with pages:=P}:=⟨_,rfl⟩
  rw[←hG]
  have gp:G.pages=P:=by rw[hG]
  have gw:∀u,zf G u=zf g u:=fun u=>by rw[hG];rfl
  have gpa:∀u,ze g.pages u≠0->zO G u=zO g u:=fun u hu'=>by
   unfold zO;rw[gp];exact hpage u hu'
  have gf:G.free=g.free:=by rw[hG]
  have gs:zC G=true:=by
   rw[hG]
   unfold zC
   show(zbo g.w&&(zar P&&decide (g.w.length=16*P.length/\g.cards.length=2*P.length)))=true
   rw[s1,hp',hlen',decide_eq_true ⟨s3,s4⟩];rfl
  have gr:ze G.pages a≠0:=by rw[gp];exact har0
  have hfree:∀d y,zau g d y=true->zau G d y=true:=fun d y h=>by
   obtain⟨h1,h2,h3⟩:=(of_decide_eq_true h:0<ze g.pages y/\zO g y=⟨1,d⟩/\zf g y=0)
   have hr:ze g.pages y≠0:=by omega
   exact decide_eq_true ⟨by rw[gp,hroom y hr];exact h1,by rw[gpa y hr];exact h2,by rw[gw];exact h3⟩
  have hmem:∀y∈zn (g.free::cs),ze g.pages y≠0:=by
   intro y hy
   obtain⟨l,hl,hy⟩:=zcM.1 hy
   have:=(zdI (m2 l hl) hy).1
   omega
  have hwk:zq (zbH G a x.word) cs=true:=by
   refine zkP gs gr hx hu ?_ (fun l hl=>zF.2 fun d d0 d2 y hy=>hfree d y ?_) (fun u hu' hne=>?_) (by rw[gf];exact m4) (by rw[gf];exact fun q=>hna a (hmem a q) rfl)
   ·have:zO G a=⟨2,m⟩:=by
     unfold zO
     rw[gp,show(a / 16-1).toNat=i by omega];exact hgi
    rw[this]
    unfold zjj
    rw[decide_eq_true rfl]
    exact decide_eq_true ⟨r3,em⟩
   ·rw[gf]at hl
    exact zF.1 (m2 l hl) d d0 d2 y hy
   ·rw[gp]at hu'
    have hr:=hst u (zw.1 hu') hne
    have hs:=zw.2 hr
    refine⟨?_,?_⟩
    ·have:=m3 u hs
     unfold zaC at this ⊢
     rw[gw,gpa u hr]
     exact this
    ·rw[gw,gf]
     exact zcL hw hs
  refine⟨hwk,?_⟩
  have hkm:=zcd (zW hwk)
  have hgm:=zcd hm
  have hself:headE (zbH G a x.word) a=0:=by
   rw[zbz hkm]
   have e:=zb1 (v:=x.word) gs gr gr
   rw[if_pos rfl]at e
   rw[if_pos ⟨gr,by rw[e];exact ziO hx hu⟩]
  refine⟨?_,⟨hself,?_⟩,fun u hne=>?_,fun u hu' f f0 f1=>?_,fun u hu'=>?_,fun f f1 f2=>?_,by rw[hG];rfl,?_,?_⟩
  ·rw[zbz hgm,if_neg (fun q=>q.1 har1)];decide
  ·have e:=zb1 (v:=x.word) gs gr gr
   rw[if_pos rfl]at e
   rw[zaA hself,e,(zco hx).1]
  ·refine zo4 hgm hkm (fun h1 h2=>?_) (fun h1 h2=>?_)
   ·have h1' : ze G.pages u≠0:=by rw[gp,hroom u h1];exact h1
    rw[zb1 gs gr h1',if_neg hne,gw]
    exact⟨h1',rfl⟩
   ·have h1:ze G.pages u≠0:=h1
    rw[zb1 gs gr h1,if_neg hne,gw]at h2
    exact⟨hst u (by rw[←gp];exact h1) hne,h2⟩
  ·have hr:=(zU hu').2.1
   rw[zgr gs gr (by rw[gp,hroom u hr];exact hr) (hna u hr) ⟨f0,by rw[gp,hroom u hr];exact f1⟩,gw]
  ·show ze G.pages u=_
   rw[gp];exact hroom u (zU hu').2.1
  ·have f2:f<ze G.pages a:=f2
   have z:=(zas (zz gr)).1
   have z:16<=a:=z
   rw[zew gs gr (by omega),if_neg (by omega),if_pos ⟨by omega,by omega⟩]
  ·show G.pages.length=_
   rw[gp];exact hlen'
  ·rw[zj2 gs gr,hG]
theorem zh2 {l:Lists} {k:Int} (hk:0<=k/\k<=2) (x:List Int) (y:Int):List.count y (l.set_ k x).flat+List.count y (l.at_ k)=List.count y l.flat+List.count y x:=by
 have:k=0\/k=1\/k=2:=by omega
 rcases this with rfl|rfl|rfl
 ·show List.count y (x++l.l1++l.l2)+List.count y l.l0=List.count y (l.l0++l.l1++l.l2)+List.count y x
  simp only[List.count_append];omega
 ·show List.count y (l.l0++x++l.l2)+List.count y l.l1=List.count y (l.l0++l.l1++l.l2)+List.count y x
  simp only[List.count_append];omega
 ·show List.count y (l.l0++l.l1++x)+List.count y l.l2=List.count y (l.l0++l.l1++l.l2)+List.count y x
  simp only[List.count_append];omega
theorem zvB {l:List Int} (h:0<l.length):l=l.take (l.length-1)++[at0 l (l.length-1)]:=by
 conv=>lhs;rw[←List.take_append_drop (l.length-1) l]
 congr 1
 rw[zcT (by omega),List.drop_eq_getElem_cons (by omega),List.drop_eq_nil_of_le (by omega)]
theorem zsD {g:Hp} {C:Lists} {cs:List Lists} {k:Int} {x:Hd} (hw:zq g (C::cs)=true) (hk:0<=k/\k<=2) (hx:x.May) (hu:x.used=true) (hn:zaM x.n=0/\clsOf x.n=k) (he:zS g C k=0) :
  zq (zbH (zZ g C k) (zao g C k) x.word) (zce g C k::cs)=true/\Took g (zbH (zZ g C k) (zao g C k) x.word) (zao g C k) x:=by
 have hpos:=zc4 hk he
 have hcat:=zvB hpos
 have eA:zao g C k=at0 (zcP g C k) ((zcP g C k).length-1):=by unfold zao;rw[if_pos he]
 have eC:zce g C k=C.set_ k ((zcP g C k).take ((zcP g C k).length-1)):=by unfold zce;rw[if_pos he]
 rw[eA,eC]
 generalize at0 (zcP g C k) ((zcP g C k).length-1)=a at *
 generalize (zcP g C k).take ((zcP g C k).length-1)=T at *
 by_cases h1:C.at_ k=[]
 ·
  have hR:zq (refG g C k) (C::cs)=true/\Objs g (refG g C k)/\(refG g C k).w.length=g.w.length:=by
   unfold refG
   split
   ·refine⟨(zie hw hk).1,(zie hw hk).2,?_⟩
    cases hf:zaO g.pages 1 with
    |none=>rw[(zaP hf k).1]
    |some i=>rw[(zaQ hf k).1];exact zea _ _
   ·exact⟨hw,.refl g,rfl⟩
  have eG:zZ g C k={refG g C k with free:=(refG g C k).free.set_ k (((refG g C k).free.at_ k).take (leftOf ((refG g C k).free.at_ k).length 2))}:=by
   unfold zZ zhU
   rw[if_pos he,if_pos h1,if_pos h1]
  have eL:zcP g C k=(((refG g C k).free.at_ k).drop (leftOf ((refG g C k).free.at_ k).length 2)).reverse:=by unfold zcP;rw[if_pos h1]
  rw[eG]
  rw[eL]at hcat
  generalize refG g C k=G at *
  obtain⟨w1,w2,w3⟩:=hR
  generalize leftOf (G.free.at_ k).length 2=n at *
  have hmem:∀y,y∈T\/y=a->y∈G.free.at_ k:=fun y hy=>by
   have:y∈(List.drop n (G.free.at_ k)).reverse:=by
    rw[hcat]
    rcases hy with q|q
    ·exact List.mem_append_left _ q
    ·exact List.mem_append_right _ (List.mem_singleton.2 q)
   exact List.mem_of_mem_drop (List.mem_reverse.1 this)
  have ha:zau G k a=true:=zF.1 ((zai (zW w1)).2.1 G.free (List.mem_cons_self ..)) k hk.1 hk.2 a (hmem a (.inr rfl))
  refine(fun t:_/\_=>⟨t.1,t.2.pre w2 w3⟩) (znp (F':=G.free.set_ k (List.take n (G.free.at_ k))) (C':=C.set_ k T) w1 hk ha hx hu hn (fun d d0 d2 y hy=>?_) (fun d d0 d2 y hy=>?_) ?_)
  ·rw[ze9 hk ⟨d0,d2⟩]at hy
   by_cases e:d=k
   ·rw[if_pos e]at hy;rw[e];exact .inl (List.mem_of_mem_take hy)
   ·rw[if_neg e]at hy;exact .inl hy
  ·rw[ze9 hk ⟨d0,d2⟩]at hy
   by_cases e:d=k
   ·rw[if_pos e]at hy;rw[e];exact .inl (hmem y (.inl hy))
   ·rw[if_neg e]at hy;exact .inr hy
  ·rw[List.perm_iff_count]
   intro y
   have c1:=zh2 (l:=G.free) hk (List.take n (G.free.at_ k)) y
   have c2:=zh2 (l:=C) hk T y
   rw[h1]at c2
   have c3:List.count y (List.drop n (G.free.at_ k))=List.count y (T++[a]):=by rw[←hcat,List.count_reverse]
   have c4:List.count y (G.free.at_ k)=List.count y (List.take n (G.free.at_ k))+List.count y (List.drop n (G.free.at_ k)):=by
    rw[←List.count_append,List.take_append_drop]
   show List.count y (a::((G.free.set_ k (List.take n (G.free.at_ k))).flat++((C.set_ k T).flat++zn cs)))=List.count y (G.free.flat++(C.flat++zn cs))
   rw[show ∀L:List Int,a::L=[a]++L from fun _=>rfl]
   simp only[List.count_append,List.count_nil]at c1 c2 c3 c4 ⊢
   omega
 ·have eG:zZ g C k={g with free:=g.free}:=by
   unfold zZ
   rw[if_pos he,if_neg h1]
  have eL:zcP g C k=C.at_ k:=by unfold zcP;rw[if_neg h1]
  rw[eG]
  rw[eL]at hcat
  have hmem:∀y,y∈T\/y=a->y∈C.at_ k:=fun y hy=>by
   rw[hcat]
   rcases hy with q|q
   ·exact List.mem_append_left _ q
   ·exact List.mem_append_right _ (List.mem_singleton.2 q)
  have ha:zau g k a=true:=zF.1 ((zai (zW hw)).2.1 C (List.mem_cons_of_mem _ (List.mem_cons_self ..))) k hk.1 hk.2 a (hmem a (.inr rfl))
  refine znp (F':=g.free) (C':=C.set_ k T) hw hk ha hx hu hn (fun d d0 d2 y hy=>.inl hy) (fun d d0 d2 y hy=>?_) ?_
  ·rw[ze9 hk ⟨d0,d2⟩]at hy
   by_cases e:d=k
   ·rw[if_pos e]at hy;rw[e];exact .inr (hmem y (.inl hy))
   ·rw[if_neg e]at hy;exact .inr hy
  ·rw[List.perm_iff_count]
   intro y
   have c2:=zh2 (l:=C) hk T y
   have c3:List.count y (C.at_ k)=List.count y (T++[a]):=by rw[←hcat]
   show List.count y (a::(g.free.flat++((C.set_ k T).flat++zn cs)))=List.count y (g.free.flat++(C.flat++zn cs))
   rw[show ∀L:List Int,a::L=[a]++L from fun _=>rfl]
   simp only[List.count_append]at c2 c3 ⊢
   omega
theorem zjD {g:Hp} {C:Lists} {cs:List Lists} {x:Hd} (hw:zq g (C::cs)=true) (he:zaw g C x=0) :
  zq (ze5 g C x) (zkv g C x::cs)=true/\Took g (ze5 g C x) (zfD g C x) x:=by
 obtain⟨t1,t2,t3⟩:=zgY he
 obtain⟨_,_,_,_,hp,hu,hc⟩:=zeH he
 have hx:x.May:=by
  unfold zc5 at hp
  by_cases h:x.May
  ·exact h
  ·rw[if_neg h]at hp;cases hp
 obtain⟨c1,c2,c3,c4,c5⟩:=zka hc
 rw[t1,t2,t3]
 have he' : (if clsOf x.n=3 then zbZ g x.n else zS g C (clsOf x.n))=0:=by
  unfold zaw at he
  split at he
  ·cases he
  ·rw[if_neg (fun k=>k hc)]at he
   exact he
 unfold zeJ zjn zvZ
 by_cases h3:clsOf x.n=3
 ·rw[if_pos h3]at he' ⊢
  rw[if_pos h3,if_pos h3]
  exact zs1 hw hx hu ⟨hc,h3⟩ he'
 ·rw[if_neg h3]at he' ⊢
  rw[if_neg h3,if_neg h3]
  exact zsD hw ⟨c3,by omega⟩ hx hu ⟨hc,rfl⟩ he'
theorem zr8 {cs cs' : List Lists} (h:cs.Perm cs'):(zn cs).Perm (zn cs'):=by
 unfold zn
 induction h with
 |nil=>exact .refl _
 |cons x _ ih=>simp only[List.flatMap_cons];exact ih.append_left _
 |swap x y l=>
  simp only[List.flatMap_cons]
  rw[←List.append_assoc,←List.append_assoc]
  exact List.perm_append_comm.append_right _
 |trans _ _ i1 i2=>exact i1.trans i2
theorem zrl {g:Hp} {cs:List Lists} (hm:zx g cs=true) (h:∀u∈cellStarts g.pages,zf g u≠0\/u∈zn (g.free::cs)):zq g cs=true:=by
 unfold zq
 rw[hm,Bool.true_and,List.all_eq_true]
 intro u hu
 rw[Bool.or_eq_true]
 rcases h u hu with k|k
 ·exact .inl (by simpa using k)
 ·exact .inr (List.contains_iff_mem.2 k)
theorem zf9 {g:Hp} {cs cs' : List Lists} (h:cs.Perm cs') (hw:zq g cs=true):zq g cs' = true:=by
 obtain⟨m1,m2,m3,m4⟩:=zai (zW hw)
 have hp:=zr8 (h.cons g.free)
 exact zrl (zdr m1 (fun l hl=>m2 l ((h.cons g.free).mem_iff.2 hl)) m3 (hp.nodup_iff.1 m4)) fun u hu=>(zcL hw hu).imp id fun q=>hp.mem_iff.1 q
theorem zmF {g:Hp} {cs:List Lists} (hw:zq g cs=true):zq g (⟨[],[],[]⟩::cs)=true:=by
 obtain⟨m1,m2,m3,m4⟩:=zai (zW hw)
 have e:zn (g.free::⟨[],[],[]⟩::cs)=zn (g.free::cs):=rfl
 refine zrl (zdr m1 (fun l hl=>?_) m3 (by rw[e];exact m4)) fun u hu=>by rw[e];exact zcL hw hu
 rcases List.mem_cons.1 hl with rfl|hl
 ·exact m2 _ (List.mem_cons_self ..)
 ·rcases List.mem_cons.1 hl with rfl|hl
  ·rfl
  ·exact m2 l (List.mem_cons_of_mem _ hl)
theorem zbI {g:Hp} {cs:List Lists} (hw:zq g cs=true):zx g []=true:=zcd (zW hw)
theorem zye {g k:Hp} (hg:zx g []=true) (hk:zx k []=true) (hu:zu k=zu g) (hw:k.w=g.w) (hr:∀u,ze k.pages u≠0->ze k.pages u=ze g.pages u) (hc:k.cards=g.cards) (hp:k.pages.length=g.pages.length):Objs g k:=by
 have w:∀u,zf k u=zf g u:=fun u=>by unfold zf;rw[hw]
 have e0:∀u,headE k u=0↔headE g u=0:=fun u=>by rw[←zaa,←zaa,hu]
 have eE:∀u,headE k u=headE g u:=fun u=>by
  have e1:=zbz hg u
  have e2:=zbz hk u
  by_cases q:headE g u=0
  ·rw[q,(e0 u).2 q]
  ·have q':=fun z=>q ((e0 u).1 z)
   split at e1
   ·exact absurd e1 q
   ·split at e2
    ·exact absurd e2 q'
    ·rw[e1,e2]
 refine⟨eE,fun u=>?_,fun u _ f _ _=>w _,fun u hu'=>?_,hc,hp⟩
 ·by_cases q:headE g u=0
  ·rw[zaA q,zaA ((e0 u).2 q),w]
  ·rw[zb3 rfl q,zb3 (eE u) q]
 ·exact hr u (zU ((e0 u).2 hu')).2.1
theorem zg2 {g:Hp} {C:Lists} {cs:List Lists} (hw:zq g (C::cs)=true):zq (zda g C) cs=true/\Objs g (zda g C)/\(zda g C).w=g.w:=by
 have hm:=zW hw
 have hC:zx g [C]=true:=by
  obtain⟨m1,m2,m3,m4⟩:=zai hm
  refine zdr m1 (fun l hl=>m2 l ?_) m3 ?_
  ·rcases List.mem_cons.1 hl with rfl|hl
   ·exact List.mem_cons_self ..
   ·rw[List.mem_singleton.1 hl];exact List.mem_cons_of_mem _ (List.mem_cons_self ..)
  ·have e:zn (g.free::C::cs)=zn [g.free,C]++zn cs:=by
    show g.free.flat++(C.flat++zn cs)=(g.free.flat++(C.flat++[]))++zn cs
    rw[List.append_nil,List.append_assoc]
   rw[e]at m4
   exact(List.nodup_append.1 m4).1
 unfold zda
 rw[if_pos hC]
 obtain⟨p1,p2⟩:=zlK hm
 have b:=zfV p1 g.pages.length (Nat.le_refl _)
 have hm0:=zcd hm
 refine⟨b.whole (p2 hw),?_,b.w⟩
 refine zye hm0 (zcd b.may) (b.used.trans ?_) b.w b.room b.cards b.plen
 have h1:=zbp (zcd p1)
 have h2:=zbp hm0
 rw[h1,h2]
 rfl
theorem zqE {g k:Hp} (hp:k.pages=g.pages) (hf:k.free=g.free) (hl:k.w.length=g.w.length) (hc:k.cards.length=g.cards.length) (h:∀u,ze g.pages u≠0->zf k u=zf g u) :
  (∀cs,zx k cs=zx g cs)/\(∀cs,zq k cs=zq g cs)/\(∀u,headE k u=headE g u)/\(∀u,headH k u=headH g u):=by
 have hs:zC k=zC g:=by unfold zC zbo;rw[hl,hp,hc]
 have hfr:∀c,zau k c=zau g c:=fun c=>funext fun u=>by
  unfold zau
  by_cases hr:0<ze g.pages u
  ·rw[h u (by omega)];unfold zO;rw[hp]
  ·rw[decide_eq_false,decide_eq_false]
   ·exact fun q=>hr q.1
   ·rw[hp];exact fun q=>hr q.1
 have hli:zaf k=zaf g:=funext fun l=>by unfold zaf;rw[hfr,hfr,hfr]
 have hce:∀u∈cellStarts g.pages,zaC k u=zaC g u:=fun u hu=>by
  unfold zaC zO;rw[h u (zw.1 hu),hp]
 have hcall:(cellStarts g.pages).all (zaC k)=(cellStarts g.pages).all (zaC g):=by
  rw[Bool.eq_iff_iff,List.all_eq_true,List.all_eq_true]
  exact⟨fun q u hu=>by rw[←hce u hu];exact q u hu,fun q u hu=>by rw[hce u hu];exact q u hu⟩
 have hm:∀cs,zx k cs=zx g cs:=fun cs=>by unfold zx;rw[hs,hf,hli,hp,hcall]
 have hE:∀u,headE k u=headE g u:=fun u=>by
  unfold headE
  rw[hm,hp]
  by_cases hr:ze g.pages u=0
  ·rw[decide_eq_true hr];rfl
  ·rw[h u hr]
 refine⟨hm,fun cs=>?_,hE,fun u=>?_⟩
 ·unfold zq
  rw[hm,hf,hp]
  congr 1
  rw[Bool.eq_iff_iff,List.all_eq_true,List.all_eq_true]
  exact⟨fun q u hu=>by rw[←h u (zw.1 hu)];exact q u hu,fun q u hu=>by rw[h u (zw.1 hu)];exact q u hu⟩
 ·by_cases q:headE g u=0
  ·rw[zaA q,zaA ((hE u).trans q),h u (zU q).2.1]
  ·rw[zb3 rfl q,zb3 (hE u) q]
abbrev zf2 (g:Hp) (p v:Int):Hp:={g with w:=g.w.set (p-16).toNat v}
theorem zmp {g:Hp} {a f v:Int} (ha:headE g a=0) (hf:0<=f/\f<(headH g a).n) {u:Int} (hu:16<=u):zf (zf2 g (a+1+f) v) u=if u=a+1+f then v else zf g u:=by
 obtain⟨_,h1,h2,_⟩:=zaj ha
 obtain⟨z1,z2,z3,z4⟩:=za4 ha
 show at0 (g.w.set (a+1+f-16).toNat v) (u-16).toNat=_
 rw[zlb (by omega)]
 by_cases e:u=a+1+f
 ·rw[if_pos e,if_pos (by rw[e])]
 ·rw[if_neg e,if_neg (by omega)]
  rfl
theorem zgU {g:Hp} {a f v:Int} (ha:headE g a=0) (hf:0<=f/\f<(headH g a).n) :
  (∀cs,zq (zf2 g (a+1+f) v) cs=zq g cs)/\(∀u,headE (zf2 g (a+1+f) v) u=headE g u)/\(∀u,headH (zf2 g (a+1+f) v) u=headH g u):=by
 obtain⟨_,h1,h2,_⟩:=zaj ha
 obtain⟨z1,z2,z3,z4⟩:=za4 ha
 have hr:=(zU ha).2.1
 obtain⟨_,b,c,d⟩:=zqE (g:=g) (k:=zf2 g (a+1+f) v) rfl rfl (by show(List.set _ _ _).length=_;rw[List.length_set]) rfl fun u hu=>by
  have z:=(zas (zz hu)).1
  have z:16<=u:=z
  have zp:=(zas (zz hu)).2.1
  have zp:0<ze g.pages u:=zp
  rw[zmp ha hf z,if_neg]
  intro e
  have:=zwk hr hu (by omega) (f:=0) ⟨Int.le_refl _,zp⟩
  omega
 exact⟨b,c,d⟩
theorem zrV {g k:Hp} {c d:Col} {l:List Thread} (s:CStep g c l k d) {cs:List Lists} (hw:zq g cs=true):zq k cs=true:=by
 cases s
 case scan hm hp s=>
  have met:∀v,zq (zax g c v).1 cs=true:=fun v=>by
   rcases zbJ g c v with⟨_,e⟩|⟨_,e⟩<;>rw[e]
   ·rw[zb5];exact hw
   ·exact hw
  cases s
  case clean=>rw[zfO];exact hw
  case last v hv=>exact met v
  case more v hv=>exact met v
  case done=>
   split
   ·rw[zfO];exact hw
   ·exact hw
  all_goals exact hw
 case trace hm hp s=>
  cases s
  case last v hv=>rw[zjw,zb5];exact hw
  case more v hv=>rw[zb5];exact hw
  all_goals exact hw
 case sweep hm hp s=>
  cases s
  case old p=>rw[zkh p];exact hw
  case free h0=>exact(zny (zW hw) h0).whole hw
  case dirty=>rw[zfO];exact hw
  all_goals exact hw
 all_goals exact hw
structure Kp (W:List Lists->Prop) (m:Mu):Prop where
 whole:∀cs,W cs->zq m.h (m.t.cache::cs)=true
 may:m.t.mayT
 col:zbi m.c=true
theorem Kp.end_ {W:List Lists->Prop} {m:Mu} (h:Kp W m) (e v:Int):Kp W (endM m e v):=by
 obtain⟨a1,a2,a3,a4,a5,a6,a7,a8⟩:=h.may
 refine⟨h.whole,⟨a1,a2,a3,a4,Int.le_refl _,by show(0:Int)<=4;decide,?_,.inl rfl⟩,h.col⟩
 show((m.t.ops.drop 1).length:Int)<=200
 rw[List.length_drop];omega
theorem zgS (t:Thread) (r a:Int):(t.setReg r a).cache=t.cache/\(t.setReg r a).ops=t.ops/\(t.setReg r a).pc=t.pc/\(t.setReg r a).stage=t.stage/\(t.setReg r a).root=t.root/\(t.setReg r a).epoch=t.epoch/\(t.setReg r a).live=t.live/\(t.setReg r a).x=t.x/\(t.setReg r a).y=t.y:=by
 unfold Thread.setReg
 split
 ·exact⟨rfl,rfl,rfl,rfl,rfl,rfl,rfl,rfl,rfl⟩
 ·split
  ·exact⟨rfl,rfl,rfl,rfl,rfl,rfl,rfl,rfl,rfl⟩
  ·split<;>exact⟨rfl,rfl,rfl,rfl,rfl,rfl,rfl,rfl,rfl⟩
theorem Kp.set {W:List Lists->Prop} {m:Mu} (h:Kp W m) (r a:Int):Kp W (zcw m r a):=by
 unfold zcw
 split
 ·obtain⟨e1,e2,e3,e4,e5,_⟩:=zgS m.t r a
  refine⟨fun cs hc=>?_,?_,h.col⟩
  ·show zq m.h ((m.t.setReg r a).cache::cs)=true
   rw[e1];exact h.whole cs hc
  ·show(m.t.setReg r a).mayT
   unfold Thread.mayT
   rw[e2,e3,e4,e5]
   exact h.may
 ·exact h
theorem zl6 {g:Hp} {c:Col} (h:zbi c=true) (a:Int):zbi (zG g c a)=true:=by
 obtain⟨m1,m2,m3,m4,m5,m6⟩:=zeT h
 have s:=zio g c a
 exact zrJ (by rw[s.phase];exact m1) (by rw[s.phase];exact m2) (by rw[s.epoch];exact m3) (by rw[s.phase,s.epoch];exact m4) (by rw[s.epoch];exact m5) (zeP g c a m6)
theorem zfz {m:Mu} {r f:Int} (h:zbj m r f=0):headE m.h (zdO m r f)=0/\0<=f/\f<(headH m.h (zdO m r f)).n/\zdG m r f=zdO m r f+1+f/\zdO m r f=m.t.reg r/\0<=r/\r<=3:=by
 obtain⟨h1,h2,h3,h4,h5⟩:=zv7 h
 unfold zd0 at h1
 by_cases hr:0<=r/\r<=3
 ·rw[if_pos hr]at h1
  by_cases h0:headE m.h (m.t.reg r)=0
  ·have ea:zfh m.h m.t r=m.t.reg r:=by unfold zfh;rw[if_pos hr,if_pos h0]
   have en:zfy m.h m.t r=(headH m.h (m.t.reg r)).n:=by unfold zfy;rw[if_pos hr,if_pos h0]
   rw[h4,ea]
   rw[ea]at h5
   rw[en]at h3
   exact⟨h0,h2,h3,h5,rfl,hr.1,hr.2⟩
  ·rw[if_neg h0]at h1;cases h1
 ·rw[if_neg hr]at h1;cases h1
theorem Kp.shade {W:List Lists->Prop} {m:Mu} (h:Kp W m) (ho:0<m.t.ops.length) (hp:m.t.pc<=3) (a:Int):Kp W (shadeM m a):=by
 obtain⟨a1,a2,a3,a4,a5,a6,a7,a8⟩:=h.may
 refine⟨fun cs hc=>?_,⟨a1,a2,a3,a4,by show 0<=m.t.pc+1;omega,by show m.t.pc+1<=4;omega,a7,.inr (by show 0<(m.t.ops.length:Int);omega)⟩,?_⟩
 ·show zq (if zga m.c m.t=true then zH m.h m.c a else m.h) (m.t.cache::cs)=true
  split
  ·rw[zb5];exact h.whole cs hc
  ·exact h.whole cs hc
 ·show zbi (if zga m.c m.t=true then zG m.h m.c a else m.c)=true
  split
  ·exact zl6 h.col a
  ·exact h.col
theorem Kp.step {W:List Lists->Prop} {m:Mu} (h:Kp W m) (hW:∃cs,W cs) (ho:0<m.t.ops.length):Kp W (zdB m):=by
 obtain⟨a1,a2,a3,a4,a5,a6,a7,a8⟩:=h.may
 unfold zdB
 split
 ·unfold createM
  split
  ·exact(h.set _ _).end_ _ _
  ·split
   ·exact h.end_ _ _
   ·split
    ·exact h.end_ _ _
    ·rename_i he
     have he:=Classical.not_not.1 he
     exact⟨fun cs hc=>(zjD (h.whole cs hc) he).1,⟨a1,a2,a3,a4,by show(0:Int)<=1;decide,by show(1:Int)<=4;decide,a7,.inr (by show 0<(m.t.ops.length:Int);omega)⟩,h.col⟩
 ·split
  ·unfold loadM
   split
   ·exact h.end_ _ _
   ·split
    ·exact h.end_ _ _
    ·exact(h.set _ _).end_ _ _
  ·split
   ·unfold storeM
    split
    ·unfold zg8
     split
     ·exact h.end_ _ _
     ·exact⟨h.whole,⟨a1,a2,a3,a4,by show(0:Int)<=1;decide,by show(1:Int)<=4;decide,a7,.inr (by show 0<(m.t.ops.length:Int);omega)⟩,h.col⟩
    ·split
     ·exact h.shade ho (by omega) _
     ·split
      ·exact h.shade ho (by omega) _
      ·split
       ·unfold zgR
        split
        ·exact h.end_ _ _
        ·rename_i he
         have he:=Classical.not_not.1 he
         obtain⟨f1,f2,f3,f4,_⟩:=zfz he
         refine⟨fun cs hc=>?_,⟨a1,a2,a3,a4,by show(0:Int)<=4;decide,Int.le_refl _,a7,.inr (by show 0<(m.t.ops.length:Int);omega)⟩,h.col⟩
         show zq (zf2 m.h (zdG m m.op.a m.op.b) m.t.y) (m.t.cache::cs)=true
         rw[f4,(zgU f1 ⟨f2,f3⟩).1]
         exact h.whole cs hc
       ·unfold zgV
        have hd:Kp W (zmx m):=⟨h.whole,(h.end_ 0 0).may,h.col⟩
        split
        ·rename_i he
         obtain⟨f1,_⟩:=zfz he
         obtain⟨cs0,hc0⟩:=hW
         have hm0:=zbI (h.whole cs0 hc0)
         obtain⟨z1,z2,z3,z4⟩:=za4 f1
         have hcd:zbb m.h (zdO m m.op.a m.op.b)=0:=zfw hm0 ⟨z2,by omega⟩
         refine⟨fun cs hc=>?_,hd.may,h.col⟩
         show zq (zaY m.h (zdO m m.op.a m.op.b)) (m.t.cache::cs)=true
         unfold zaY
         rw[decide_eq_true hcd]
         show zq (zcO _ _ _) _=true
         rw[zfO]
         exact h.whole cs hc
        ·exact hd
   ·split
    ·exact(h.set _ _).end_ _ _
    ·split
     ·exact h.end_ _ _
     ·split
      ·exact h.end_ _ _
      ·split
       ·exact⟨fun cs hc=>zmF (zg2 (h.whole cs hc)).1,by show Thread.zero.mayT;decide,h.col⟩
       ·exact h.end_ _ _
theorem zP {w:Wd}:zQ w=true↔w.t.length<=4/\(∀t∈w.t,t.mayT)/\zbi w.c=true/\zq w.h (zT w)=true:=by
 unfold zQ
 simp only[Bool.and_eq_true,decide_eq_true_eq,Bool.not_eq_true',List.any_eq_false,Bool.not_eq_true,decide_eq_false_iff_not,Classical.not_not]
theorem zk9 {α:Type}:∀ {l:List α} {i:Nat} (h:i<l.length) (y:α),l.Perm (l[i]::l.eraseIdx i)/\(l.set i y).Perm (y::l.eraseIdx i)
 |x::l,0,_,y=>⟨.refl _,.refl _⟩
 |x::l,i+1,h,y=>by
  obtain⟨h1,h2⟩:=zk9 (l:=l) (i:=i) (by simpa using h) y
  exact⟨(h1.cons x).trans (.swap _ _ _),(h2.cons x).trans (.swap _ _ _)⟩
theorem zk1 {w:Wd} {n:Int} (h:zfd w n=true):n.toNat<w.t.length/\((n.toNat:Nat):Int)=n:=by
 have hr:0<=n/\n<(w.t.length:Int):=of_decide_eq_true h
 omega
theorem zik {w:Wd} {n:Int} (hi:zfd w n=true) (hl:n.toNat<(zT w).length):(zT w)[n.toNat]=(thW w n).cache:=by
 have hlt:=(zk1 hi).1
 have e:(zT w)[n.toNat]? = some (thW w n).cache:=by
  unfold zT thW
  rw[List.getElem?_map,List.getD_eq_getElem?_getD,List.getElem?_eq_getElem hlt];rfl
 exact(List.getElem?_eq_some_iff.1 e).2
theorem zt8:∀ {L:List Lists} {l:Lists},l∈L->l.flat.length<=(zn L).length
 |x::L,l,h=>by
  have e:zn (x::L)=x.flat++zn L:=rfl
  rw[e,List.length_append]
  rcases List.mem_cons.1 h with rfl|h
  ·omega
  ·have:=zt8 h;omega
theorem zlQ {w:Wd} {n:Int} (hi:zfd w n=true) (hm:zQ w=true) {k:Hp} {d:Col} {u:Thread} {log:List Res} (hT:u.mayT) (hC:zbi d=true)
  (hW:∀cs,zq w.h ((thW w n).cache::cs)=true->zq k (u.cache::cs)=true):zQ ⟨k,d,w.t.set n.toNat u,log⟩=true:=by
 obtain⟨h1,h2,h3,h4⟩:=zP.1 hm
 obtain⟨hlt,_⟩:=zk1 hi
 refine zP.2 ⟨by show(w.t.set _ _).length<=4;rw[List.length_set];exact h1,fun t ht=>?_,hC,?_⟩
 ·rcases zat ht with ht|rfl
  ·exact h2 t ht
  ·exact hT
 ·have hl:n.toNat<(zT w).length:=by unfold zT;rw[List.length_map];exact hlt
  obtain⟨p1,p2⟩:=zk9 hl u.cache
  have e:=zik hi hl
  have e2:zT ⟨k,d,w.t.set n.toNat u,log⟩=(zT w).set n.toNat u.cache:=by unfold zT;exact List.map_set ..
  rw[e2]
  rw[e]at p1
  exact zf9 p2.symm (hW _ (zf9 p1 h4))
theorem znw {w:Wd} (hm:zQ w=true) {k:Hp} {d:Col} {log:List Res} (hC:zbi d=true) (hW:zq k (zT w)=true):zQ ⟨k,d,w.t,log⟩=true:=by
 obtain⟨h1,h2,h3,h4⟩:=zP.1 hm
 exact zP.2 ⟨h1,h2,hC,hW⟩
theorem zwe {g k:Hp} {c d:Col} {l:List Thread} (s:CStep g c l k d) (h:zbi c=true):zbi d=true:=by
 obtain⟨m1,m2,m3,m4,m5,m6⟩:=zeT h
 obtain⟨e1,_,e2,e3⟩:=s.col
 refine zrJ ?_ ?_ (by rw[e1];exact m3) (fun hp=>?_) (by rw[e1];exact m5) (e3 m6)
 ·rcases e2 with⟨e,_⟩|⟨_,_,_,e⟩|⟨_,_,e⟩|⟨_,_,e⟩|⟨_,e⟩
  ·rw[e];exact m1
  ·omega
  ·rw[e];split<;>decide
  ·omega
  ·omega
 ·rcases e2 with⟨e,_⟩|⟨_,_,_,e⟩|⟨_,_,e⟩|⟨_,_,e⟩|⟨_,e⟩
  ·rw[e];exact m2
  ·omega
  ·rw[e];split<;>decide
  ·omega
  ·omega
 ·rw[e1]
  refine m4 fun h0=>hp ?_
  rcases e2 with⟨e,_⟩|⟨_,_,_,e⟩|⟨_,_,e⟩|⟨_,_,e⟩|⟨_,e⟩<;>omega
theorem zdQ {w:Wd} (hm:zQ w=true) (e:Pair):zQ (doW w e)=true:=by
 obtain⟨h1,h2,h3,h4⟩:=zP.1 hm
 obtain⟨m1,m2,m3,m4,m5,m6⟩:=zeT h3
 have hstart:∀m,zQ (startW w m)=true:=fun m=>by
  unfold startW
  split
  ·rename_i he
   refine znw hm ?_ h4
   unfold zbS
   rw[if_pos he]
   unfold zay at he
   rw[if_pos h3]at he
   have:¬w.c.epoch=1048576:=fun q=>by
    rw[if_pos q]at he
    split at he<;>cases he
   exact zrJ (by show(0:Int)<=1;decide) (by show(1:Int)<=6;decide) (by show 0<=w.c.epoch+1;omega) (fun _=>by show 1<=w.c.epoch+1;omega) (by show w.c.epoch+1<=1048576;omega) (by show 0<=4;decide)
  ·exact hm
 unfold doW
 rw[if_pos hm]
 unfold doW1
 split
 ·unfold stepW
  split
  ·exact hm
  ·rename_i hi
   have hi:zfd w e.snd=true:=by simpa using hi
   have hT:=h2 _ (zb6 hi)
   split
   ·exact hm
   ·rename_i hn
    split
    ·refine zlQ hi hm (zvz hT) ?_ fun cs hc=>?_
     ·unfold ansC;split
      ·exact zl6 h3 _
      ·exact h3
     ·rw[(zu9 w.c (thW w e.snd)).cache]
      unfold ansG;split
      ·rw[zb5];exact hc
      ·exact hc
    ·have hlt:=(zk1 hi).1
     have hl:e.snd.toNat<(zT w).length:=by unfold zT;rw[List.length_map];exact hlt
     have hp:=(zk9 hl default).1
     have ec:=zik hi hl
     rw[ec]at hp
     have hk0:Kp (fun cs=>zq w.h ((thW w e.snd).cache::cs)=true) ⟨w.h,w.c,thW w e.snd,Res.zero,false⟩:=⟨fun _ h=>h,hT,h3⟩
     have hk:Kp (fun cs=>zq w.h ((thW w e.snd).cache::cs)=true) (mutS w.h w.c (thW w e.snd)):=by
      unfold mutS
      split
      ·rename_i hM
       refine hk0.step ⟨_,zf9 hp h4⟩ ?_
       unfold zgE at hM
       simp only[Bool.and_eq_true,decide_eq_true_eq]at hM
       exact hM.2.2.1
      ·exact hk0
     exact zlQ hi hm hk.may hk.col hk.whole
 ·split
  ·exact znw hm (zwe (zc1 w.h w.c w.t) h3) (zrV (zc1 w.h w.c w.t) h4)
  ·split
   ·exact hstart _
   ·split
    ·exact hstart _
    ·split
     ·unfold beginW
      split
      ·exact hm
      ·rename_i hi
       have hi:zfd w e.snd=true:=by simpa using hi
       have hT:=h2 _ (zb6 hi)
       split
       ·exact hm
       ·obtain⟨a1,a2,a3,a4,a5,a6,a7,a8⟩:=hT
        refine zlQ hi hm ?_ h3 fun cs hc=>?_
        ·unfold beginT
         split
         ·rename_i x hx
          obtain⟨b1,b2,_⟩:=h2 x (List.mem_of_find?_eq_some hx)
          exact⟨b1,b2,Int.le_refl _,by show(0:Int)<=3;decide,Int.le_refl _,by show(0:Int)<=4;decide,a7,.inl rfl⟩
         ·refine⟨?_,?_,Int.le_refl _,by show(0:Int)<=3;decide,Int.le_refl _,by show(0:Int)<=4;decide,a7,.inl rfl⟩
          ·show 0<=zeo w.c.phase
           unfold zeo;split;decide;split;decide;split<;>decide
          ·show zeo w.c.phase<=3
           unfold zeo;split;decide;split;decide;split<;>decide
        ·have:(beginT w.c (thW w e.snd) w.t).cache=(thW w e.snd).cache:=by unfold beginT;split<;>rfl
         rw[this];exact hc
     ·exact hm
theorem zw6 {w:Wd} (hm:zQ w=true) (hl:w.log.length<zk):w.Fit:=by
 obtain⟨h1,h2,h3,h4⟩:=zP.1 hm
 obtain⟨c1,c2,c3,c4,c5,c6⟩:=zeT h3
 obtain⟨m1,m2,m3,m4⟩:=zai (zW h4)
 obtain⟨s1,s2,s3,s4,s5,s6⟩:=zl m1
 have hfl:(zn (w.h.free::zT w)).length<=512:=by
  refine Nat.le_trans (zfK m4 (m:=cellStarts w.h.pages) fun x hx=>?_) (by unfold cellStarts;rw[List.length_map];exact zge _)
  obtain⟨l,hl,hx⟩:=zcM.1 hx
  exact zw.2 (by have:=(zdI (m2 l hl) hx).1;omega)
 have hpart:∀l∈w.h.free::zT w,l.l0.length<=512/\l.l1.length<=512/\l.l2.length<=512:=by
  intro l hl
  have hs:=zt8 hl
  unfold Lists.flat at hs
  rw[List.length_append,List.length_append]at hs
  omega
 obtain⟨f0,f1,f2⟩:=hpart _ (List.mem_cons_self ..)
 refine⟨⟨?_,?_,?_,?_,?_,?_⟩,?_,h1,fun t ht=>?_,?_,hl⟩
 ·unfold zk;omega
 ·unfold zk;omega
 ·unfold zk;omega
 ·unfold zk;omega
 ·unfold zk;omega
 ·unfold zk;omega
 ·unfold zk;omega
 ·obtain⟨t1,t2,t3,t4,t5,t6,t7,t8⟩:=h2 t ht
  obtain⟨g0,g1,g2⟩:=hpart t.cache (List.mem_cons_of_mem _ (List.mem_map.2 ⟨t,ht,rfl⟩))
  refine⟨⟨?_,?_,?_,?_⟩,?_,?_,?_⟩<;>unfold zk<;>omega
 ·show(zn (w.h.free::zT w)).length<=zk
  unfold zk;omega
theorem zke (w:Wd) (e:Pair):(doW w e).log.length<=w.log.length+1:=by
 unfold doW
 split
 ·unfold doW1
  split
  ·unfold stepW
   split
   ·exact Nat.le_succ _
   ·split
    ·exact Nat.le_succ _
    ·split
     ·exact Nat.le_succ _
     ·show(zru _ _ _).length<=_
      unfold zru
      split
      ·rw[List.length_append];exact Nat.le_refl _
      ·exact Nat.le_succ _
  ·split
   ·exact Nat.le_succ _
   ·split
    ·unfold startW;split<;>exact Nat.le_succ _
    ·split
     ·unfold startW;split<;>exact Nat.le_succ _
     ·split
      ·unfold beginW
       split
       ·exact Nat.le_succ _
       ·split<;>exact Nat.le_succ _
      ·exact Nat.le_succ _
 ·exact Nat.le_succ _
open Go.Proofs Go.Proofs.YtlankjlnnimdoaaGreatDoor
theorem zrj:∀n:Nat,pgo 0 (List.replicate n ⟨0,0⟩)=true
 |0=>rfl
 |n+1=>by
  rw[List.replicate_succ]
  simp only[pgo]
  have:=zrj n
  simp[zag,this]
theorem zuP (n i:Nat):(List.replicate n (⟨0,0⟩:Page)).getD i default=⟨0,0⟩:=by
 rw[List.getD_eq_getElem?_getD]
 by_cases h:i<n
 ·rw[List.getElem?_replicate,if_pos h];rfl
 ·rw[List.getElem?_replicate,if_neg h];rfl
theorem zhb (n:Nat):cellStarts (List.replicate n ⟨0,0⟩)=[]:=by
 have:zae (List.replicate n (⟨0,0⟩:Page)) 0=[]:=by
  unfold zae
  rw[List.flatMap_eq_nil_iff]
  intro j _
  rw[zuP]
  rfl
 unfold cellStarts cellsAll
 rw[this]
 split<;>rfl
theorem zwn {n:Int} (h:pgN n=true):newH n=⟨zer (n*16).toNat,List.replicate n.toNat ⟨0,0⟩,⟨[],[],[]⟩,List.replicate (2*n).toNat false⟩:=by unfold newH;rw[h];rfl
theorem zme {n:Int} (h:pgN n=true):zq (newH n) []=true/\zu (newH n)=[]:=by
 have hn:=of_decide_eq_true h
 rw[zwn h]
 have hm:zx ⟨zer (n*16).toNat,List.replicate n.toNat ⟨0,0⟩,⟨[],[],[]⟩,List.replicate (2*n).toNat false⟩ []=true:=by
  unfold zx zC
  have h1:zbo (zer (n*16).toNat)=true:=by
   unfold zbo zer
   rw[List.length_replicate]
   exact decide_eq_true (by omega)
  have h2:zar (List.replicate n.toNat ⟨0,0⟩)=true:=by
   unfold zar
   rw[zrj,List.length_replicate,Bool.true_and]
   exact decide_eq_true (by omega)
  simp only[h1,h2,zhb]
  have h3:decide ((zer (n*16).toNat).length=16*(List.replicate n.toNat (⟨0,0⟩:Page)).length/\(List.replicate (2*n).toNat false).length=2*(List.replicate n.toNat (⟨0,0⟩:Page)).length)=true:=by
   apply decide_eq_true
   unfold zer
   simp only[List.length_replicate]
   omega
  rw[h3]
  rfl
 constructor
 ·unfold zq
  rw[hm,zhb]
  rfl
 ·unfold zu
  rw[hm,zhb]
  rfl
end Go.Abs
namespace Go.Abs
set_option maxRecDepth 8000
theorem zjq {n:Int} {l:List (List Op)} (h:zca n l=0):pgN n=true/\l.length<=4/\(∀o∈l,o.length<=200)/\madeW n l=⟨newH n,Wd.zero.c,l.map fun o=>{Thread.zero with ops:=o},[]⟩:=by
 unfold zca at h
 split at h
 ·rename_i h1;exact absurd h h1
 ·rename_i h1
  split at h
  ·cases h
  ·rename_i h2
   have hp:pgN n=true:=by
    have h1:=Classical.not_not.1 h1
    unfold newE at h1
    split at h1
    ·assumption
    ·cases h1
   have h2' : ∀o∈l,¬(4<l.length\/200<o.length):=by
    simp only[Bool.not_eq_true,List.any_eq_false,decide_eq_true_eq]at h2
    exact h2
   refine⟨hp,?_,fun o ho=>by have:=h2' o ho;omega,?_⟩
   ·cases l with
    |nil=>exact Nat.zero_le _
    |cons o r=>have:=h2' o (List.mem_cons_self ..);omega
   ·unfold madeW
    rw[if_neg h1,if_neg h2]
theorem zmI {n:Int} {l:List (List Op)} (h:zca n l=0):zQ (madeW n l)=true/\(madeW n l).log=[]:=by
 obtain⟨h1,h2,h3,e⟩:=zjq h
 rw[e]
 refine⟨zP.2 ⟨by show(l.map _).length<=4;rw[List.length_map];exact h2,fun t ht=>?_,by show zbi Wd.zero.c=true;decide,?_⟩,rfl⟩
 ·obtain⟨o,ho,rfl⟩:=List.mem_map.1 ht
  have:=h3 o ho
  exact⟨Int.le_refl 0,by show(0:Int)<=3;decide,Int.le_refl 0,by show(0:Int)<=3;decide,Int.le_refl 0,by show(0:Int)<=4;decide,by show(o.length:Int)<=200;omega,.inl rfl⟩
 ·show zq (newH n) ((l.map fun o=>{Thread.zero with ops:=o}).map (·.cache))=true
  rw[List.map_map]
  have hz:∀m:List (List Op),zq (newH n) (m.map ((·.cache) ∘ fun o=>{Thread.zero with ops:=o}))=true:=by
   intro m
   induction m with
   |nil=>exact(zme h1).1
   |cons o r ih=>exact zmF ih
  exact hz l
theorem zpa {w:Wd} (h:zQ w=true) (l:List Pair):zQ (runW w l)=true:=by
 unfold runW
 induction l generalizing w with
 |nil=>exact h
 |cons e r ih=>exact ih (zdQ h e)
theorem ztA (w:Wd) (l:List Pair):(runW w l).log.length<=w.log.length+l.length:=by
 unfold runW
 induction l generalizing w with
 |nil=>exact Nat.le_refl _
 |cons e r ih=>
  have h1:=ih (doW w e)
  have h2:=zke w e
  simp only[List.foldl_cons,List.length_cons]
  omega
theorem zuc {n:Int} {l:List (List Op)} (h:zca n l=0) {e:List Pair} (he:e.length<=1000000) (i:Nat):(runW (madeW n l) (e.take i)).Fit:=by
 obtain⟨h1,h2⟩:=zmI h
 refine zw6 (zpa h1 _) ?_
 have:=ztA (madeW n l) (e.take i)
 rw[h2,List.length_take]at this
 simp only[List.length_nil]at this
 unfold zk
 omega
def EpX (e:Int) (x:Hd):Prop:=x.mark<=e/\x.born<=e/\(x.old=false->x.born<=x.mark)
def EpH (e:Int) (g:Hp):Prop:=∀u,headE g u=0->EpX e (headH g u)
theorem EpH.mono {e e' : Int} {g:Hp} (h:EpH e g) (h' : e<=e'):EpH e' g:=fun u hu=>by
 obtain⟨a,b,c⟩:=h u hu
 exact⟨by omega,by omega,c⟩
theorem EpH.same {e:Int} {g k:Hp} (h:EpH e g) (hs:∀u,headE k u=0->headE g u=0/\headH k u=headH g u):EpH e k:=fun u hu=>by
 obtain⟨a,b⟩:=hs u hu
 rw[b];exact h u a
theorem EpH.shade {g:Hp} {c:Col} (h:EpH c.epoch g) (a:Int):EpH c.epoch (zH g c a):=fun u hu=>by
 obtain⟨e1,e2⟩:=zeV g c a u
 rw[e1]at hu
 obtain⟨q1,q2,q3⟩:=h u hu
 rw[e2]
 split
 ·rename_i k
  obtain⟨rfl,k⟩:=k
  obtain⟨_,k2⟩:=zyK k
  exact⟨Int.le_refl _,q2,fun _=>q2⟩
 ·exact⟨q1,q2,q3⟩
theorem EpH.black {e:Int} {g:Hp} {c:Col} (h:EpH e g) (a:Int):EpH e (zak g c a):=fun u hu=>by
 obtain⟨e1,e2⟩:=zeZ g c a u
 rw[e1]at hu
 have q:=h u hu
 rw[e2]
 split
 ·rename_i k
  obtain⟨rfl,_⟩:=k
  exact q
 ·exact q
theorem EpH.card {e:Int} {g:Hp} (h:EpH e g) (i:Int) (b:Bool):EpH e (zcO g i b):=h.same fun u hu=>⟨by rw[zen]at hu;exact hu,zid _ _ _ _⟩
theorem EpH.cyc {g k:Hp} {c d:Col} {l:List Thread} (h:EpH c.epoch g) (s:CStep g c l k d) {cs:List Lists} (hw:zq g cs=true):EpH c.epoch k:=by
 cases s
 case scan hm hp s=>
  have met:∀v,EpH c.epoch (zax g c v).1:=fun v=>by
   rcases zbJ g c v with⟨_,e⟩|⟨_,e⟩<;>rw[e]
   ·exact h.shade v
   ·exact h
  cases s
  case clean=>exact h.card _ _
  case last v hv=>exact met v
  case more v hv=>exact met v
  case done=>
   split
   ·exact h.card _ _
   ·exact h
  all_goals exact h
 case trace hm hp s=>
  cases s
  case last v hv=>exact(h.shade v).black _
  case more v hv=>exact h.shade v
  all_goals exact h
 case sweep hm hp s=>
  cases s
  case old hm hp hmet hf h0 p=>
   intro u hu
   obtain⟨e1,e2⟩:=zgK p u
   rw[e1]at hu
   rw[e2]
   split
   ·rename_i e
    subst e
    obtain⟨q1,q2,q3⟩:=h _ hu
    exact⟨q1,q2,fun k=>by cases k⟩
   ·exact h u hu
  case free hm hp hmet hn hl hq hf h0=>
   have f:=zny (zW hw) h0
   exact h.same fun u hu=>⟨((f.head u).1.1 hu).1,(f.head u).2 hu⟩
  case dirty hc=>exact h.card _ _
  all_goals exact h
 all_goals exact h
structure EpM (m:Mu):Prop where
 h:EpH m.c.epoch m.h
 t:m.t.epoch<=m.c.epoch
 z:0<=m.c.epoch
theorem EpM.end_ {m:Mu} (h:EpM m) (e v:Int):EpM (endM m e v):=⟨h.h,h.t,h.z⟩
theorem EpM.set {m:Mu} (h:EpM m) (r a:Int):EpM (zcw m r a):=by
 unfold zcw
 split
 ·refine⟨h.h,?_,h.z⟩
  show(m.t.setReg r a).epoch<=_
  rw[(zgS m.t r a).2.2.2.2.2.1];exact h.t
 ·exact h
theorem EpM.shade {m:Mu} (h:EpM m) (a:Int):EpM (shadeM m a):=by
 have e:(shadeM m a).c.epoch=m.c.epoch:=(zjC m a).c.epoch
 refine⟨?_,by rw[e];exact h.t,by rw[e];exact h.z⟩
 rw[e]
 show EpH m.c.epoch (if zga m.c m.t=true then zH m.h m.c a else m.h)
 split
 ·exact h.h.shade a
 ·exact h.h
theorem zwj {m:Mu} (h:0<=m.c.epoch) (n:Int):EpX m.c.epoch (zbV m n):=by
 unfold zbV
 split
 ·exact⟨Int.le_refl _,Int.le_refl _,fun _=>Int.le_refl _⟩
 ·exact⟨h,h,fun _=>Int.le_refl _⟩
theorem EpM.step {m:Mu} (h:EpM m) {cs:List Lists} (hw:zq m.h (m.t.cache::cs)=true):EpM (zdB m):=by
 unfold zdB
 split
 ·unfold createM
  split
  ·exact(h.set _ _).end_ _ _
  ·split
   ·exact h.end_ _ _
   ·split
    ·exact h.end_ _ _
    ·rename_i he
     have he:=Classical.not_not.1 he
     have t:=(zjD hw he).2
     refine⟨fun u hu=>?_,h.t,h.z⟩
     show EpX m.c.epoch (headH (ze5 m.h m.t.cache (zbV m m.op.b)) u)
     have hu:headE (ze5 m.h m.t.cache (zbV m m.op.b)) u=0:=hu
     by_cases e:u=zfD m.h m.t.cache (zbV m m.op.b)
     ·rw[e,t.self.2];exact zwj h.z _
     ·obtain⟨e1,e2⟩:=t.head u e
      rw[e2];exact h.h u (by rw[←e1];exact hu)
 ·split
  ·unfold loadM
   split
   ·exact h.end_ _ _
   ·split
    ·exact h.end_ _ _
    ·exact(h.set _ _).end_ _ _
  ·split
   ·unfold storeM
    split
    ·unfold zg8
     split
     ·exact h.end_ _ _
     ·exact⟨h.h,h.t,h.z⟩
    ·split
     ·exact h.shade _
     ·split
      ·exact h.shade _
      ·split
       ·unfold zgR
        split
        ·exact h.end_ _ _
        ·rename_i he
         have he:=Classical.not_not.1 he
         obtain⟨f1,f2,f3,f4,_⟩:=zfz he
         obtain⟨_,k2,k3⟩:=zgU (v:=m.t.y) f1 ⟨f2,f3⟩
         refine⟨?_,h.t,h.z⟩
         show EpH m.c.epoch (zf2 m.h (zdG m m.op.a m.op.b) m.t.y)
         rw[f4]
         exact h.h.same fun u hu=>⟨by rw[←k2];exact hu,k3 u⟩
       ·unfold zgV
        split
        ·rename_i he
         obtain⟨f1,_⟩:=zfz he
         obtain⟨z1,z2,z3,z4⟩:=za4 f1
         have hcd:zbb m.h (zdO m m.op.a m.op.b)=0:=zfw (zbI hw) ⟨z2,by omega⟩
         refine⟨?_,h.t,h.z⟩
         show EpH m.c.epoch (zaY m.h (zdO m m.op.a m.op.b))
         unfold zaY
         rw[decide_eq_true hcd]
         exact h.h.card _ _
        ·exact⟨h.h,h.t,h.z⟩
   ·split
    ·exact(h.set _ _).end_ _ _
    ·split
     ·exact h.end_ _ _
     ·split
      ·exact h.end_ _ _
      ·split
       ·obtain⟨_,o,_⟩:=zg2 hw
        refine⟨h.h.same fun u hu=>⟨by rw[←o.headE];exact hu,o.headH u⟩,h.z,h.z⟩
       ·exact h.end_ _ _
structure EpW (w:Wd):Prop where
 h:EpH w.c.epoch w.h
 t:∀t∈w.t,t.epoch<=w.c.epoch
theorem zjT {w:Wd} {n:Int} (hi:zfd w n=true) (hw:zq w.h (zT w)=true):∃cs,zq w.h ((thW w n).cache::cs)=true:=by
 have hlt:=(zk1 hi).1
 have hl:n.toNat<(zT w).length:=by unfold zT;rw[List.length_map];exact hlt
 have hp:=(zk9 hl default).1
 have ec:=zik hi hl
 rw[ec]at hp
 exact⟨_,zf9 hp hw⟩
theorem EpW.do_ {w:Wd} (h:EpW w) (e:Pair):EpW (doW w e):=by
 unfold doW
 by_cases hm:zQ w=true
 ·rw[if_pos hm]
  obtain⟨h1,h2,h3,h4⟩:=zP.1 hm
  obtain⟨m1,m2,m3,m4,m5,m6⟩:=zeT h3
  have hstart:∀m,EpW (startW w m):=fun m=>by
   unfold startW
   split
   ·rename_i he
    have ec:(zbS w.c m).epoch=w.c.epoch+1:=by unfold zbS;rw[if_pos he]
    refine⟨?_,fun t ht=>?_⟩
    ·show EpH (zbS w.c m).epoch w.h
     rw[ec];exact h.h.mono (by omega)
    ·show t.epoch<=(zbS w.c m).epoch
     have:=h.t t ht
     rw[ec];omega
   ·exact h
  unfold doW1
  split
  ·unfold stepW
   split
   ·exact h
   ·rename_i hi
    have hi:zfd w e.snd=true:=by simpa using hi
    have hT:=h.t _ (zb6 hi)
    split
    ·exact h
    ·split
     ·have ec:=(zmM w.h w.c (thW w e.snd)).epoch
      refine⟨?_,fun t ht=>?_⟩
      ·show EpH (ansC w.h w.c (thW w e.snd)).epoch (ansG w.h w.c (thW w e.snd))
       rw[ec]
       unfold ansG
       split
       ·exact h.h.shade _
       ·exact h.h
      ·show t.epoch<=(ansC w.h w.c (thW w e.snd)).epoch
       rw[ec]
       rcases zat ht with ht|rfl
       ·exact h.t t ht
       ·unfold ansT
        split
        ·exact hT
        ·exact Int.le_refl _
        ·exact hT
        ·split
         ·exact hT
         ·exact hT
     ·have ec:=(ztB w.h w.c (thW w e.snd)).c.epoch
      have hM:EpM (mutS w.h w.c (thW w e.snd)):=by
       have h0:EpM ⟨w.h,w.c,thW w e.snd,Res.zero,false⟩:=⟨h.h,hT,m3⟩
       unfold mutS
       split
       ·obtain⟨cs,hc⟩:=zjT hi h4
        exact h0.step hc
       ·exact h0
      refine⟨hM.h,fun t ht=>?_⟩
      rcases zat ht with ht|rfl
      ·show t.epoch<=(mutS w.h w.c (thW w e.snd)).c.epoch
       rw[ec];exact h.t t ht
      ·exact hM.t
  ·split
   ·have s:=zc1 w.h w.c w.t
    have ec:=s.col.1
    refine⟨?_,fun t ht=>?_⟩
    ·show EpH (zbN w.h w.c w.t).2.epoch (zbN w.h w.c w.t).1
     rw[ec];exact h.h.cyc s h4
    ·show t.epoch<=(zbN w.h w.c w.t).2.epoch
     rw[ec];exact h.t t ht
   ·split
    ·exact hstart _
    ·split
     ·exact hstart _
     ·split
      ·unfold beginW
       split
       ·exact h
       ·rename_i hi
        have hi:zfd w e.snd=true:=by simpa using hi
        split
        ·exact h
        ·refine⟨h.h,fun t ht=>?_⟩
         rcases zat ht with ht|rfl
         ·exact h.t t ht
         ·show(beginT w.c (thW w e.snd) w.t).epoch<=w.c.epoch
          unfold beginT
          split
          ·rename_i x hx
           exact h.t x (List.mem_of_find?_eq_some hx)
          ·show(if w.c.phase=0 then 0 else w.c.epoch)<=w.c.epoch
           split
           ·exact m3
           ·exact Int.le_refl _
      ·exact h
 ·rw[if_neg hm];exact h
theorem EpW.made {n:Int} {l:List (List Op)} (h:zca n l=0):EpW (madeW n l):=by
 obtain⟨h1,h2,h3,e⟩:=zjq h
 rw[e]
 refine⟨fun u hu=>?_,fun t ht=>?_⟩
 ·have hu:u∈zu (newH n):=zaa.2 hu
  rw[(zme h1).2]at hu
  cases hu
 ·obtain⟨o,_,rfl⟩:=List.mem_map.1 ht
  exact Int.le_refl _
theorem EpW.run {w:Wd} (h:EpW w) (l:List Pair):EpW (runW w l):=by
 unfold runW
 induction l generalizing w with
 |nil=>exact h
 |cons e r ih=>exact ih (h.do_ e)
end Go.Abs
