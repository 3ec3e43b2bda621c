/- Walks and plain laws: WWorld2, WMut, WMut2, WMut3, WMut4, WMut5, WWorld3, WWorld4, WWorld5. -/
import Derived.Test.YtlankjlnnimdoaaGreatDoorPh
import Derived.Test.YtlankjlnnimdoaaGreatDoorPg
import Derived.Test.YtlankjlnnimdoaaGreatDoorPf
set_option linter.all false
namespace Go.Abs
open Go.Proofs Go.Proofs.YtlankjlnnimdoaaGreatDoor
set_option maxRecDepth 60000
set_option maxHeartbeats 4000000
theorem zt4 {L:List Lists} {x:Lists} (h:x∈L):x.flat.length<=(flats L).length:=by
 unfold flats
 induction L with
 |nil=>cases h
 |cons y r ih=>
  rw[List.flatMap_cons,List.length_append]
  rcases List.mem_cons.1 h with rfl|h
  ·omega
  ·have:=ih h;omega
theorem Wd.Fit.light {w:Wd} (h:w.Fit):w.h.light:=by
 have:=h.flat
 unfold Hp.light
 unfold flats at this ⊢
 rw[List.flatMap_cons,List.length_append]at this
 rw[List.flatMap_cons,List.length_append]
 show _+0<=_
 omega
theorem Wd.Fit.one {w:Wd} (h:w.Fit) {t:Thread} (ht:t∈w.t):(flats (zec w.h [t.cache])).length<=zi:=by
 have h1:=h.flat
 have h2:t.cache.flat.length<=(flats (zY w)).length:=zt4 (List.mem_map_of_mem ht)
 unfold flats at h1 h2 ⊢
 rw[List.flatMap_cons,List.length_append]at h1
 rw[List.flatMap_cons,List.length_append,List.flatMap_cons,List.length_append]
 show _+(_+0)<=_
 omega
abbrev rnH (w:Wd):zh:=[(16,.vars (wdO w 17 18)),(17,.data .thread w.t),(18,.data .res w.log)]
theorem zqT (w:Wd) (n:Int):Spec X 113 [] [.c (.d (.rp w.cells)),.int n] (Ret [] (.bo (zeb w n))):=by
 refine zGO X_ok Tryz.f113 fun hb hH=>⟨rfl,?_⟩
 show ARet ..
 refine zo (x:=bif decide (n>=0) then decide (n<(w.t.length:Int)) else false) ?_ ⟨rfl,rfl⟩
 unfold zeb
 by_cases h:n>=0
 ·rw[decide_eq_true h]
  show decide _=decide _
  rw[decide_eq_decide]
  omega
 ·rw[decide_eq_false h,show decide (0<=n/\n<(w.t.length:Int))=false from decide_eq_false (by omega)]
  rfl
theorem zjS (w:Wd) (m:Bool):Spec X 118 (rnH w) [.c (.ptr 16 0 0),.bo m] (fun H r=>H=rnH (startW w m)/\r = .int (zaw w.c)):=by
 refine zGO X_ok Tryz.f118 fun hb hH=>⟨rfl,?_⟩
 unfold startW
 show ACall ..
 refine za (znT w.c m) rfl ?_
 show ABr (zaw w.c==0) _ _
 by_cases h:zaw w.c=0
 ·rw[if_pos h,show(zaw w.c==0)=true by simpa using h]
  refine zYE (by decide) ?_
  show ARet ..
  exact⟨[(16,16),(17,17),(18,18)],rnH ({w with c:=zbx w.c m}),[.int (zaw w.c)],.cons _ _ _ _ .same .nil,.old 16 16 _ _ _ rfl rfl (.vars _ _ (by repeat (first|exact .nil|refine .cons _ _ _ _ (.d _) ?_|refine .cons _ _ _ _ (.own _ _ rfl) ?_))) (.old 17 17 _ _ _ rfl rfl (.data_eq rfl) (.old 18 18 _ _ _ rfl rfl (.data_eq rfl) .nil)),rfl,rfl,rfl⟩
 ·rw[if_neg h,show(zaw w.c==0)=false by simpa using h]
  refine zNO (by decide) ?_
  show ARet ..
  exact⟨[(16,16),(17,17),(18,18)],rnH (w),[.int (zaw w.c)],.cons _ _ _ _ .same .nil,.old 16 16 _ _ _ rfl rfl (.vars _ _ (by repeat (first|exact .nil|refine .cons _ _ _ _ (.d _) ?_|refine .cons _ _ _ _ (.own _ _ rfl) ?_))) (.old 17 17 _ _ _ rfl rfl (.data_eq rfl) (.old 18 18 _ _ _ rfl rfl (.data_eq rfl) .nil)),rfl,rfl,rfl⟩
theorem zo0 (w:Wd) (n:Int):Spec X 76 (rnH w) [.c (.ptr 16 0 0),.int n] (fun H r=>H=rnH (startW w false)/\r = .int (zaw w.c)):=by
 refine zGO X_ok Tryz.f76 fun hb hH=>⟨rfl,?_⟩
 show ACall ..
 refine .hand [(16,16),(17,17),(18,18)] (rnH w) [.c (.ptr 16 0 0),.bo false] _ (.cons _ _ _ _ (.c _ _ (.ptr _ _ _ _ rfl)) (.cons _ _ _ _ .same .nil)) (.old 16 16 _ _ _ rfl rfl (.vars _ _ (by repeat (first|exact .nil|refine .cons _ _ _ _ (.d _) ?_|refine .cons _ _ _ _ (.own _ _ rfl) ?_))) (.old 17 17 _ _ _ rfl rfl (.data_eq rfl) (.old 18 18 _ _ _ rfl rfl (.data_eq rfl) .nil))) rfl (zjS w false) ?_
 rintro H r ⟨rfl,rfl⟩ _ _
 refine⟨rfl,.inl rfl,?_⟩
 generalize startW w false=w'
 show ARet ..
 exact⟨[(16,16),(17,17),(18,18)],rnH (w'),[.int (zaw w.c)],.cons _ _ _ _ .same .nil,.old 16 16 _ _ _ rfl rfl (.vars _ _ (by repeat (first|exact .nil|refine .cons _ _ _ _ (.d _) ?_|refine .cons _ _ _ _ (.own _ _ rfl) ?_))) (.old 17 17 _ _ _ rfl rfl (.data_eq rfl) (.old 18 18 _ _ _ rfl rfl (.data_eq rfl) .nil)),rfl,rfl,rfl⟩
theorem zpB (w:Wd) (n:Int):Spec X 77 (rnH w) [.c (.ptr 16 0 0),.int n] (fun H r=>H=rnH (startW w true)/\r = .int (zaw w.c)):=by
 refine zGO X_ok Tryz.f77 fun hb hH=>⟨rfl,?_⟩
 show ACall ..
 refine .hand [(16,16),(17,17),(18,18)] (rnH w) [.c (.ptr 16 0 0),.bo true] _ (.cons _ _ _ _ (.c _ _ (.ptr _ _ _ _ rfl)) (.cons _ _ _ _ .same .nil)) (.old 16 16 _ _ _ rfl rfl (.vars _ _ (by repeat (first|exact .nil|refine .cons _ _ _ _ (.d _) ?_|refine .cons _ _ _ _ (.own _ _ rfl) ?_))) (.old 17 17 _ _ _ rfl rfl (.data_eq rfl) (.old 18 18 _ _ _ rfl rfl (.data_eq rfl) .nil))) rfl (zjS w true) ?_
 rintro H r ⟨rfl,rfl⟩ _ _
 refine⟨rfl,.inl rfl,?_⟩
 generalize startW w true=w'
 show ARet ..
 exact⟨[(16,16),(17,17),(18,18)],rnH (w'),[.int (zaw w.c)],.cons _ _ _ _ .same .nil,.old 16 16 _ _ _ rfl rfl (.vars _ _ (by repeat (first|exact .nil|refine .cons _ _ _ _ (.d _) ?_|refine .cons _ _ _ _ (.own _ _ rfl) ?_))) (.old 17 17 _ _ _ rfl rfl (.data_eq rfl) (.old 18 18 _ _ _ rfl rfl (.data_eq rfl) .nil)),rfl,rfl,rfl⟩
abbrev rnF (w:Wd):zh:=[(16,.vars ((w.h.enc++w.c.enc).map CV.d++[.d (.sl .thread w.t),.own 18])),(17,.dead),(18,.data .res w.log)]
theorem zuf (w:Wd) (n:Int) (hF:w.Fit):Spec X 75 (rnH w) [.c (.ptr 16 0 0),.int n] (fun H r=>H=rnF (colW w)/\r = .int 0):=by
 refine zGO X_ok Tryz.f75 fun hb hH=>⟨rfl,?_⟩
 have hlt:w.h.light:=hF.light
 obtain⟨hs,hw,hl,hth,hfl,hlog⟩:=hF
 show ADCall ..
 refine .any (.tup [(zb5 w.h w.c w.t).1.tv,(zb5 w.h w.c w.t).2.tv]) [(16,.vars ((w.h.enc++w.c.enc).map CV.d++[.d (.sl .thread w.t),.own 18])),(17,.dead)] (.frz [17] [(16,.vars ((w.h.enc++w.c.enc).map CV.d++[.d (.sl .thread w.t),.own 18]))] [w.h.tv,w.c.tv,.c (.d (.sl .thread w.t))] _ rfl (.vars 16 _ _ _ rfl rfl ?_ .nil) (.cons _ _ _ _ (.agg _ _ ?_) (.cons _ _ _ _ (.agg _ _ ?_) (.cons _ _ _ _ (.c _ _ (.frz _ _ rfl)) .nil))) rfl (zoB w.h w.c w.t hlt hs hw) ?_) ?_
 ·repeat (first|exact .nil|refine .cons _ _ _ _ (.same _) ?_|refine .cons _ _ _ _ (.frz _ _ rfl) ?_)
 ·repeat (first|exact .nil|refine .cons _ _ _ _ (.same _) ?_)
 ·repeat (first|exact .nil|refine .cons _ _ _ _ (.same _) ?_)
 ·rintro H r ⟨rfl,rfl⟩ _ _
  exact⟨rfl,rfl⟩
 unfold colW
 generalize (zb5 w.h w.c w.t).1=g'
 generalize (zb5 w.h w.c w.t).2=c'
 show ARet ..
 exact⟨[(16,16),(17,17),(18,18)],rnF {h:=g',c:=c',t:=w.t,log:=w.log},[.int 0],.cons _ _ _ _ .same .nil,.old 16 16 _ _ _ rfl rfl (.vars _ _ (by repeat (first|exact .nil|refine .cons _ _ _ _ (.d _) ?_|refine .cons _ _ _ _ (.own _ _ rfl) ?_))) (.old 17 17 _ _ _ rfl rfl .dead (.old 18 18 _ _ _ rfl rfl (.data_eq rfl) .nil)),rfl,rfl,rfl⟩
theorem zqL (c:Col) (t:Thread) (l:List Thread) (ht:t.ok):Spec X 119 [(16,.data .thread l)] [c.tv,t.tv,.c (.own 16)] (fun H r=>H=[(16,.data .thread l)]/\r=(beginT c t l).tv):=by
 refine zGO X_ok Tryz.f119 fun hb hH=>⟨rfl,?_⟩
 show ACall ..
 refine za ((zj7 Hp.zero Col.zero t ⟨by decide,by decide,by decide,by decide,by decide,by decide⟩ (by decide) ht).args (.cons _ _ _ _ (.agg _ _ ?_) (.cons _ _ _ _ (.agg _ _ ?_) (.cons _ _ _ _ (.refl _) .nil)))) rfl ?_
 ·repeat (first|exact .nil|refine .cons _ _ _ ?_|refine .sl _ _ _ _ _ rfl ?_)
 ·repeat (first|exact .nil|refine .cons _ _ _ ?_|refine .sl _ _ _ _ _ rfl ?_)
 show ADCall ..
 refine .mk _ _ (zkM c.phase) rfl ?_
 show ABr (decide (c.phase=0)) _ _
 refine⟨fun h=>?_,fun h=>?_⟩
 ·show ACall ..
  refine za (zgj l 167 [] (·.live) (fun x _=>ziO x)) rfl ?_
  cases hf:l.findIdx? (·.live) with
  |none=>
   rw[zj3 hf,if_pos (by simpa using h)]
   refine zNO (by decide) ?_
   show ARet ..
   exact⟨[(16,16)],[(16,.data .thread l)],[((zi3 t 0 (zbQ c.phase))).tv],.cons _ _ _ _ (.agg _ _ (zb rfl)) .nil,.old 16 16 _ _ _ rfl rfl (.data_eq rfl) .nil,rfl,rfl,rfl⟩
  |some i=>
   obtain⟨hi,_,_,e⟩:=zjH (c:=c) (t:=t) hf
   rw[e]
   show ABr (decide ((i:Int)>=0)) _ _
   refine⟨fun h'=>?_,fun h'=>absurd h' (by simp)⟩
   repeat (show AOb _ _;refine⟨(by first|exact hi|exact⟨Int.natCast_nonneg _,Int.ofNat_lt.2 hi⟩|exact⟨(by decide:(0:Int)<=0),(by decide:(0:Int)<4)⟩),?_⟩)
   show ARet ..
   exact⟨[(16,16)],[(16,.data .thread l)],[({zi3 t (l.getD i default).epoch (l.getD i default).stage with r0:=(l.getD i default).r0}).tv],.cons _ _ _ _ (.agg _ _ (zb rfl)) .nil,.old 16 16 _ _ _ rfl rfl (.data_eq rfl) .nil,rfl,rfl,rfl⟩
 ·show ACall ..
  refine za (zgj l 167 [] (·.live) (fun x _=>ziO x)) rfl ?_
  cases hf:l.findIdx? (·.live) with
  |none=>
   rw[zj3 hf,if_neg (by simpa using h)]
   refine zNO (by decide) ?_
   show ARet ..
   exact⟨[(16,16)],[(16,.data .thread l)],[((zi3 t c.epoch (zbQ c.phase))).tv],.cons _ _ _ _ (.agg _ _ (zb rfl)) .nil,.old 16 16 _ _ _ rfl rfl (.data_eq rfl) .nil,rfl,rfl,rfl⟩
  |some i=>
   obtain⟨hi,_,_,e⟩:=zjH (c:=c) (t:=t) hf
   rw[e]
   show ABr (decide ((i:Int)>=0)) _ _
   refine⟨fun h'=>?_,fun h'=>absurd h' (by simp)⟩
   repeat (show AOb _ _;refine⟨(by first|exact hi|exact⟨Int.natCast_nonneg _,Int.ofNat_lt.2 hi⟩|exact⟨(by decide:(0:Int)<=0),(by decide:(0:Int)<4)⟩),?_⟩)
   show ARet ..
   exact⟨[(16,16)],[(16,.data .thread l)],[({zi3 t (l.getD i default).epoch (l.getD i default).stage with r0:=(l.getD i default).r0}).tv],.cons _ _ _ _ (.agg _ _ (zb rfl)) .nil,.old 16 16 _ _ _ rfl rfl (.data_eq rfl) .nil,rfl,rfl,rfl⟩
theorem zox (w:Wd) (n:Int) (hF:w.Fit):Spec X 78 (rnH w) [.c (.ptr 16 0 0),.int n] (fun H r=>H=rnH (beginW w n)/\r = .int (beginWE w n)):=by
 refine zGO X_ok Tryz.f78 fun hb hH=>⟨rfl,?_⟩
 obtain⟨hs,hw,hl,hth,hfl,hlog⟩:=hF
 show ACall ..
 refine za (zqT w n) rfl ?_
 cases hi:zeb w n with
 |false=>
  have e1:beginW w n=w:=by unfold beginW;rw[if_pos hi]
  have e2:beginWE w n=3:=by unfold beginWE;rw[if_pos hi]
  rw[e1,e2]
  refine zYE (by decide) ?_
  show ARet ..
  exact⟨[(16,16),(17,17),(18,18)],rnH (w),[.int (3)],.cons _ _ _ _ .same .nil,.old 16 16 _ _ _ rfl rfl (.vars _ _ (by repeat (first|exact .nil|refine .cons _ _ _ _ (.d _) ?_|refine .cons _ _ _ _ (.own _ _ rfl) ?_))) (.old 17 17 _ _ _ rfl rfl (.data_eq rfl) (.old 18 18 _ _ _ rfl rfl (.data_eq rfl) .nil)),rfl,rfl,rfl⟩
 |true=>
  have hr:0<=n/\n<(w.t.length:Int):=of_decide_eq_true hi
  have hlt:n.toNat<w.t.length:=by omega
  refine zNO (by decide) ?_
  show AOb ..
  refine⟨by exact hr,?_⟩
  show AOb ..
  refine⟨by exact hlt,?_⟩
  cases hlv:(thW w n).live with
  |true=>
   have e0:zdJ w n=true:=by unfold zdJ;rw[hlv];rfl
   have e1:beginW w n=w:=by unfold beginW;rw[if_neg (by rw[hi];decide),if_pos e0]
   have e2:beginWE w n=4:=by unfold beginWE;rw[if_neg (by rw[hi];decide),if_pos e0]
   rw[e1,e2]
   show ABr (thW w n).live _ _
   rw[hlv]
   refine zYE (by decide) ?_
   show ABr (thW w n).live _ _
   rw[hlv]
   refine zYE (by decide) ?_
   show ARet ..
   exact⟨[(16,16),(17,17),(18,18)],rnH (w),[.int (4)],.cons _ _ _ _ .same .nil,.old 16 16 _ _ _ rfl rfl (.vars _ _ (by repeat (first|exact .nil|refine .cons _ _ _ _ (.d _) ?_|refine .cons _ _ _ _ (.own _ _ rfl) ?_))) (.old 17 17 _ _ _ rfl rfl (.data_eq rfl) (.old 18 18 _ _ _ rfl rfl (.data_eq rfl) .nil)),rfl,rfl,rfl⟩
  |false=>
   show ABr (thW w n).live _ _
   rw[hlv]
   refine zNO (by decide) ?_
   show AOb ..
   refine⟨by exact hr,?_⟩
   show AOb ..
   refine⟨by exact hlt,?_⟩
   show ABr (((thW w n).ops.length:Int)==0) _ _
   by_cases ho:(thW w n).ops.length=0
   ·have e0:zdJ w n=true:=by unfold zdJ;rw[hlv,decide_eq_true ho];rfl
    have e1:beginW w n=w:=by unfold beginW;rw[if_neg (by rw[hi];decide),if_pos e0]
    have e2:beginWE w n=4:=by unfold beginWE;rw[if_neg (by rw[hi];decide),if_pos e0]
    rw[e1,e2,show(((thW w n).ops.length:Int)==0)=true by rw[ho];rfl]
    refine zYE (by decide) ?_
    show ARet ..
    exact⟨[(16,16),(17,17),(18,18)],rnH (w),[.int (4)],.cons _ _ _ _ .same .nil,.old 16 16 _ _ _ rfl rfl (.vars _ _ (by repeat (first|exact .nil|refine .cons _ _ _ _ (.d _) ?_|refine .cons _ _ _ _ (.own _ _ rfl) ?_))) (.old 17 17 _ _ _ rfl rfl (.data_eq rfl) (.old 18 18 _ _ _ rfl rfl (.data_eq rfl) .nil)),rfl,rfl,rfl⟩
   ·have e0:zdJ w n=false:=by unfold zdJ;rw[hlv,decide_eq_false ho];rfl
    have e1:beginW w n={w with t:=w.t.set n.toNat (beginT w.c (thW w n) w.t)}:=by unfold beginW;rw[if_neg (by rw[hi];decide),if_neg (by rw[e0];decide)]
    have e2:beginWE w n=0:=by unfold beginWE;rw[if_neg (by rw[hi];decide),if_neg (by rw[e0];decide)]
    rw[e1,e2,show(((thW w n).ops.length:Int)==0)=false by rw[beq_eq_false_iff_ne];omega]
    refine zNO (by decide) ?_
    show AOb ..
    refine⟨by exact hr,?_⟩
    show AOb ..
    refine⟨by exact hlt,?_⟩
    show ADCall ..
    refine .any ((beginT w.c (thW w n) w.t).tv) [(17,.data .thread w.t)] (.hand [(17,16)] [(16,.data .thread w.t)] [w.c.tv,(thW w n).tv,.c (.own 16)] _ (.cons _ _ _ _ (.agg _ _ (zb rfl)) (.cons _ _ _ _ (.agg _ _ (zb rfl)) (.cons _ _ _ _ (.c _ _ (.own _ _ rfl)) .nil))) (.old 16 17 _ _ _ rfl rfl (.data_eq rfl) .nil) rfl (zqL w.c (thW w n) w.t (hth _ (zbZ hi)).1) ?_) ?_
    ·rintro H r ⟨rfl,rfl⟩ _ _
     exact⟨rfl,.inl rfl,rfl,rfl⟩
    generalize beginT w.c (thW w n) w.t=u
    show AOb ..
    refine⟨by exact hr,?_⟩
    show AOb ..
    refine⟨by exact hlt,?_⟩
    show ARet ..
    exact⟨[(16,16),(17,17),(18,18)],rnH ({w with t:=w.t.set n.toNat u}),[.int (0)],.cons _ _ _ _ .same .nil,.old 16 16 _ _ _ rfl rfl (.vars _ _ (by repeat (first|exact .nil|refine .cons _ _ _ _ (.d _) ?_|refine .cons _ _ _ _ (.own _ _ rfl) ?_))) (.old 17 17 _ _ _ rfl rfl (.data_eq rfl) (.old 18 18 _ _ _ rfl rfl (.data_eq rfl) .nil)),rfl,rfl,rfl⟩
set_option maxRecDepth 8000
theorem zpi {g:Hp} {t:Thread} {r:Int} (h:zdl g t r=0):0<=ze2 g t r/\ze2 g t r<=2000/\zd8 g t r<=63:=by
 unfold zdl at h
 unfold ze2 zd8
 by_cases h1:0<=r/\r<=3
 ·rw[if_pos h1]at h ⊢
  by_cases h2:headE g (t.reg r)=0
  ·rw[if_pos h1,if_pos h2,if_pos h2]
   obtain⟨_,_,_,a1,a2⟩:=zar h2
   obtain⟨hm,_,_⟩:=zG h2
   obtain⟨_,_,hwl,_,_,h64⟩:=zm (zF hm)
   have:=(zjv (ziD h2).1).1.2
   omega
  ·rw[if_neg h2]at h;cases h
 ·rw[if_neg h1]at h;cases h
set_option maxHeartbeats 4000000 in
set_option maxRecDepth 60000 in
theorem zb1 (g:Hp) (c:Col) (t:Thread) (hs:g.small) (hw:c.work.length<=zi) (ht:t.ok):Spec X 146 [] [g.tv,c.tv,t.tv] (Ret [(0,.vars (muV ⟨g,c,t,Res.zero,false⟩))] (.c (.ptr 0 0 0))):=by
 refine zGO X_ok Tryz.f146 fun hb hH=>⟨rfl,?_⟩
 obtain⟨h1,h2,h3,h4,h5,h6⟩:=hs
 obtain⟨t1,t2,t3,t4⟩:=ht
 show ADCall ..
 refine .mk _ _ (zd g.w h1) rfl ?_
 show ADCall ..
 refine .mk _ _ (zab g.pages h2) rfl ?_
 show ADCall ..
 refine .mk _ _ (zae g.cards h3) rfl ?_
 show ADCall ..
 refine .mk _ _ (zd c.work hw) rfl ?_
 show ADCall ..
 refine .mk _ _ (zcb t.ops t1) rfl ?_
 show ∃n,_
 refine⟨4,?_⟩
 show ALoop ..
 refine .next ?_
 refine zYE (by decide) ?_
 show AOb ..
 refine⟨by decide,?_⟩
 show ADCall ..
 refine .mk _ _ (zd g.free.l0 h4) rfl ?_
 show AOb ..
 refine⟨by decide,?_⟩
 show ADCall ..
 refine .mk _ _ (zd t.cache.l0 t2) rfl ?_
 show AOb ..
 refine⟨by decide,?_⟩
 show AOb ..
 refine⟨by decide,?_⟩
 show ALoop ..
 refine .next ?_
 refine zYE (by decide) ?_
 show AOb ..
 refine⟨by decide,?_⟩
 show ADCall ..
 refine .mk _ _ (zd g.free.l1 h5) rfl ?_
 show AOb ..
 refine⟨by decide,?_⟩
 show ADCall ..
 refine .mk _ _ (zd t.cache.l1 t3) rfl ?_
 show AOb ..
 refine⟨by decide,?_⟩
 show AOb ..
 refine⟨by decide,?_⟩
 show ALoop ..
 refine .next ?_
 refine zYE (by decide) ?_
 show AOb ..
 refine⟨by decide,?_⟩
 show ADCall ..
 refine .mk _ _ (zd g.free.l2 h6) rfl ?_
 show AOb ..
 refine⟨by decide,?_⟩
 show ADCall ..
 refine .mk _ _ (zd t.cache.l2 t4) rfl ?_
 show AOb ..
 refine⟨by decide,?_⟩
 show AOb ..
 refine⟨by decide,?_⟩
 show ALoop ..
 refine .next ?_
 refine zNO (by decide) ?_
 show ARet ..
 exact⟨[(_,0)],[(0,.vars (muV ⟨g,c,t,Res.zero,false⟩))],[.c (.ptr 0 0 0)],.cons _ _ _ _ (.c _ _ (.ptr1 _ _ _ _)) .nil,.old 0 _ _ _ _ rfl rfl (.vars _ _ (zb rfl)) .nil,rfl,rfl,rfl⟩
theorem zbV (g:Hp) (t:Thread) (hlm:(flats (zec g [t.cache])).length<=zi):Spec X 147 [] [g.tv,t.tv] (Ret [] (.bo (zg8 g t))):=by
 refine Spec.fz (zGO zlI Tryz.f147 fun hb hH=>⟨rfl,?_⟩)
 unfold zg8
 show ACall ..
 refine za ((zkR t).uz) rfl ?_
 have ec:(bif bif decide t.mayT then t.live else false then decide ((t.ops.length:Int)>0) else false)=(decide t.mayT&&(t.live&&decide (0<t.ops.length))):=by
  have e:decide ((t.ops.length:Int)>0)=decide (0<t.ops.length):=by rw[decide_eq_decide];omega
  rw[e]
  cases decide t.mayT<;>cases t.live<;>rfl
 show AIf ((bif bif decide t.mayT then t.live else false then decide ((t.ops.length:Int)>0) else false)=true/\True) _ _
 rw[ec]
 cases hb:(decide t.mayT&&(t.live&&decide (0<t.ops.length))) with
 |false=>
  show AIf ..
  refine⟨fun h=>absurd h.1 (by decide),fun _=>?_⟩
  show AOb ..
  refine⟨by exact ec.trans hb,?_⟩
  show ARet ..
  refine zo (x:=false) ?_ ⟨rfl,rfl⟩
  rw[←Bool.and_assoc,←Bool.and_assoc,Bool.and_assoc (decide _),hb]
  rfl
 |true=>
  show AIf ..
  refine⟨fun _=>?_,fun h=>absurd ⟨(by rfl),trivial⟩ h⟩
  show ACall ..
  refine za ((zeo g [t.cache] hlm (by unfold zi;simp)).uz) rfl ?_
  show ARet ..
  refine zo (x:=zw g [t.cache]) ?_ ⟨rfl,rfl⟩
  rw[←Bool.and_assoc,←Bool.and_assoc,Bool.and_assoc (decide _),hb]
  rfl
theorem zbf (m:Mu) (h:0<m.t.ops.length):Spec X 157 [] [.c (.d (.rp m.cells))] (Ret [] (.dagg (EK.enc .op m.op))):=by
 refine zGO X_ok Tryz.f157 fun hb hH=>⟨rfl,?_⟩
 show AOb ((0:Int)<=0/\(0:Int)<(m.t.ops.length:Int)) _
 refine⟨by omega,?_⟩
 show ARet ..
 exact zg rfl ⟨rfl,rfl⟩
theorem zeC (a b:Int):Spec X 189 [] [.c (.d (.sl .int [a,b]))] (Ret [] (.int (zaU a b))):=by
 refine zGO X_ok Tryz.f189 fun hb hH=>⟨rfl,?_⟩
 show ∃n,_
 refine⟨4,?_⟩
 unfold zaU
 show ALoop ..
 refine .next ?_
 show ABr ..
 refine⟨fun _=>?_,fun h=>absurd h (by show ¬decide ((0:Int)<2)=false;decide)⟩
 show AOb ..
 refine⟨by show(0:Int)<=0/\(0:Int)<2;decide,?_⟩
 show ABr (a != 0) _ _
 by_cases h1:a≠0
 ·rw[if_pos h1,show(a != 0)=true by simpa using h1]
  refine zYE (by decide) ?_
  show ARet ..
  exact zg rfl ⟨rfl,rfl⟩
 ·rw[if_neg h1,show(a != 0)=false by simpa using h1]
  refine zNO (by decide) ?_
  show ALoop ..
  refine .next ?_
  show ABr ..
  refine⟨fun _=>?_,fun h=>absurd h (by show ¬decide ((1:Int)<2)=false;decide)⟩
  show AOb ..
  refine⟨by show(0:Int)<=1/\(1:Int)<2;decide,?_⟩
  show ABr (b != 0) _ _
  by_cases h2:b≠0
  ·rw[show(b != 0)=true by simpa using h2]
   refine zYE (by decide) ?_
   show ARet ..
   exact zg rfl ⟨rfl,rfl⟩
  ·rw[show(b != 0)=false by simpa using h2]
   refine zNO (by decide) ?_
   show ALoop ..
   refine .next ?_
   show ABr ..
   refine⟨fun h=>absurd h (by show ¬decide ((2:Int)<2)=true;decide),fun _=>?_⟩
   show ARet ..
   refine zaA (x:=0) (by omega) ⟨rfl,rfl⟩
theorem zcp (m:Mu) (r:Int):Spec X 190 [] [.c (.d (.rp m.cells)),.int r] (Ret [] (.int (za9 r))):=by
 refine zGO X_ok Tryz.f190 fun hb hH=>⟨rfl,?_⟩
 show ACall ..
 refine za (zmD m.t r) rfl ?_
 show ARet ..
 exact zg rfl ⟨rfl,rfl⟩
theorem zi9 (m:Mu) (r a:Int) (ht:m.t.ok):Spec X 188 [(16,.vars (muV m))] [.c (.ptr 16 0 0),.int r,.int a] (fun H r'=>H=[(16,.vars (muV (zca m r a)))]/\r' = .tup []):=by
 refine zGO X_ok Tryz.f188 fun hb hH=>⟨rfl,?_⟩
 unfold zca za9
 by_cases h:0<=r/\r<=3
 ·rw[if_pos h,if_pos rfl]
  show ACall ..
  refine za (zv4 m.t r a ht h) rfl ?_
  refine zYE (by decide) ?_
  show ARet ..
  exact⟨[(16,16)],[(16,.vars (muV {m with t:=m.t.setReg r a}))],[],.nil,.old 16 16 _ _ _ rfl rfl (.vars _ _ (zb rfl)) .nil,rfl,rfl,rfl⟩
 ·rw[if_neg h,if_neg (by decide)]
  show ACall ..
  refine za (zwT m.t r a h) rfl ?_
  refine zNO (by decide) ?_
  show ARet ..
  exact⟨[(16,16)],[(16,.vars (muV m))],[],.nil,.old 16 16 _ _ _ rfl rfl (.vars _ _ (zb rfl)) .nil,rfl,rfl,rfl⟩
theorem zrX (m:Mu) (n:Int):Spec X 192 [] [.c (.d (.rp m.cells)),.int n] (Ret [] (zau m n).tv):=by
 refine zGO X_ok Tryz.f192 fun hb hH=>⟨rfl,?_⟩
 show ADCall ..
 refine .mk _ _ (zsu m.c m.t) rfl ?_
 unfold zau zlF
 cases hb:decide (m.t.epoch=m.c.epoch/\m.t.stage=3/\m.c.phase≠0) with
 |true=>
  rw[if_pos rfl]
  refine zYE (by decide) ?_
  show ARet ..
  exact zg rfl ⟨rfl,rfl⟩
 |false=>
  rw[if_neg (by decide)]
  refine zNO (by decide) ?_
  show ARet ..
  exact zg rfl ⟨rfl,rfl⟩
theorem zeE (m:Mu) (r f:Int) (hl:m.h.light):Spec X 193 [] [.c (.d (.rp m.cells)),.int r,.int f] (Ret [] (.tup [.int (zcF m r f),.int (zcZ m r f),.int (zaT m r f)])):=by
 refine zGO X_ok Tryz.f193 fun hb hH=>⟨rfl,?_⟩
 show ADCall ..
 refine .mk _ _ (zjU m.h m.t r hl) rfl ?_
 by_cases hE:zdl m.h m.t r=0
 ·show ABr (zdl m.h m.t r != 0) _ _
  rw[show(zdl m.h m.t r != 0)=false by rw[hE];rfl]
  refine zNO (by decide) ?_
  show ABr (decide (f<0)) _ _
  by_cases h1:f<0
  ·obtain⟨e1,e2,e3⟩:=zlJ hE (.inl h1)
   rw[decide_eq_true h1,e1,e2,e3]
   refine zYE (by decide) ?_
   refine zYE (by decide) ?_
   show ARet ..
   exact zg rfl ⟨rfl,rfl⟩
  ·rw[decide_eq_false h1]
   refine zNO (by decide) ?_
   show ABr (decide (f>=zd8 m.h m.t r)) _ _
   by_cases h2:zd8 m.h m.t r<=f
   ·obtain⟨e1,e2,e3⟩:=zlJ hE (.inr h2)
    rw[decide_eq_true (show f>=zd8 m.h m.t r from h2),e1,e2,e3]
    refine zYE (by decide) ?_
    show ARet ..
    exact zg rfl ⟨rfl,rfl⟩
   ·obtain⟨e1,e2,e3⟩:=ztr hE (fun q=>q.elim h1 h2)
    rw[decide_eq_false (show ¬f>=zd8 m.h m.t r from h2),e1,e2,e3]
    refine zNO (by decide) ?_
    obtain⟨k1,k2,k3⟩:=zpi hE
    have w1:IntKind.i64.wrap (ze2 m.h m.t r+1)=ze2 m.h m.t r+1:=zu (by omega) (by omega)
    have w2:IntKind.i64.wrap (IntKind.i64.wrap (ze2 m.h m.t r+1)+f)=ze2 m.h m.t r+1+f:=by rw[w1];exact zu (by omega) (by omega)
    show ARet ..
    exact⟨[],[],[.int (ze2 m.h m.t r+1+f),.int (ze2 m.h m.t r),.int 0],.cons _ _ _ _ (.int_eq w2) (.cons _ _ _ _ .same (.cons _ _ _ _ .same .nil)),.nil,rfl,rfl,rfl⟩
 ·obtain⟨e1,e2,e3⟩:=ztl hE f
  show ABr (zdl m.h m.t r != 0) _ _
  rw[e1,e2,e3,show(zdl m.h m.t r != 0)=true by simpa using hE]
  refine zYE (by decide) ?_
  show ARet ..
  exact zg rfl ⟨rfl,rfl⟩
theorem zhP (m:Mu) (e v:Int) (h:0<m.t.ops.length):Spec X 201 [(16,.vars (muV m))] [.c (.ptr 16 0 0),.int e,.int v] (fun H r=>H=[(16,.vars (muV (ziN m e v)))]/\r = .tup []):=by
 refine zGO X_ok Tryz.f201 fun hb hH=>⟨rfl,?_⟩
 show ACall ..
 refine za (zbf m h) rfl ?_
 show ARet ..
 exact⟨[(16,16)],[(16,.vars (muV (ziN m e v)))],[],.nil,.old 16 16 _ _ _ rfl rfl (.vars _ _ (zb rfl)) .nil,rfl,rfl,rfl⟩
theorem zhV (m:Mu) (h:0<m.t.ops.length):Spec X 203 [(16,.vars (muV m))] [.c (.ptr 16 0 0)] (fun H r=>H=[(16,.vars (muV (zka m)))]/\r = .tup []):=by
 refine zGO X_ok Tryz.f203 fun hb hH=>⟨rfl,?_⟩
 show AOb ((0:Int)<=1/\(1:Int)<=(m.t.ops.length:Int)) _
 refine⟨by omega,?_⟩
 show ARet ..
 exact⟨[(16,16)],[(16,.vars (muV (zka m)))],[],.nil,.old 16 16 _ _ _ rfl rfl (.vars _ _ (zb rfl)) .nil,rfl,rfl,rfl⟩
theorem zaE (m:Mu) (e v:Int) (h:0<m.t.ops.length):Spec X 156 [(16,.vars (muV m))] [.c (.ptr 16 0 0),.int e,.int v] (fun H r=>H=[(16,.vars (muV (endM m e v)))]/\r = .tup []):=by
 refine zGO X_ok Tryz.f156 fun hb hH=>⟨rfl,?_⟩
 show ACall ..
 refine .hand [(16,16)] [(16,.vars (muV m))] [.c (.ptr 16 0 0),.int e,.int v] _ (.cons _ _ _ _ (.c _ _ (.ptr _ _ _ _ rfl)) (.cons _ _ _ _ .same (.cons _ _ _ _ .same .nil))) (.old 16 16 _ _ _ rfl rfl (.vars _ _ (zb rfl)) .nil) rfl (zhP m e v h) ?_
 rintro H r ⟨rfl,rfl⟩ _ _
 refine⟨rfl,.inl rfl,?_⟩
 show ACall ..
 refine .hand [(16,16)] [(16,.vars (muV (ziN m e v)))] [.c (.ptr 16 0 0)] _ (.cons _ _ _ _ (.c _ _ (.ptr _ _ _ _ rfl)) .nil) (.old 16 16 _ _ _ rfl rfl (.vars _ _ (zb rfl)) .nil) rfl (zhV (ziN m e v) h) ?_
 rintro H r ⟨rfl,rfl⟩ _ _
 refine⟨rfl,.inl rfl,?_⟩
 show ARet ..
 exact⟨[(16,16)],[(16,.vars (muV (endM m e v)))],[],.nil,.old 16 16 _ _ _ rfl rfl (.vars _ _ (zb rfl)) .nil,rfl,rfl,rfl⟩
theorem ziR (m:Mu) (r a:Int):(zca m r a).t.ops=m.t.ops:=by
 unfold zca Thread.setReg
 split
 ·split
  ·rfl
  ·split
   ·rfl
   ·split<;>rfl
 ·rfl
theorem zgN {m:Mu} {r f:Int} (h:zaT m r f=0):zba m.h.w=true/\16<=zcF m r f/\zcF m r f<16+m.h.w.length/\0<=zcZ m r f/\zcZ m r f<=2000/\headE m.h (m.t.reg r)=0/\0<=f/\f<(headH m.h (m.t.reg r)).n/\zcF m r f=m.t.reg r+1+f:=by
 obtain⟨h1,h2,h3,h4,h5⟩:=zvT h
 obtain⟨k1,k2,k3⟩:=zpi h1
 unfold zdl at h1
 by_cases hr:0<=r/\r<=3
 ·rw[if_pos hr]at h1
  by_cases hh:headE m.h (m.t.reg r)=0
  ·unfold ze2 at h4 h5 k1 k2
   unfold zd8 at h3
   rw[if_pos hr,if_pos hh]at h4 h5 k1 k2 h3
   obtain⟨hm,hr2,_⟩:=zG hh
   obtain⟨hmw,_⟩:=zm (zF hm)
   obtain⟨⟨a1,a2⟩,_⟩:=ze7 (f:=f+1) hh (by omega) (by omega)
   have ha16:=(zak (h:=m.h) hr2).1
   exact⟨hmw,by omega,by omega,by omega,by omega,hh,h2,h3,h5⟩
  ·rw[if_neg hh]at h1;cases h1
 ·rw[if_neg hr]at h1;cases h1
set_option maxRecDepth 60000 in
set_option maxHeartbeats 4000000 in
theorem znQ (m:Mu) (hs:m.h.small) (ht:m.t.ok) (hco:m.t.cache.ok) (hlm:(flats (zec m.h [m.t.cache])).length<=zi) (h:0<m.t.ops.length):Spec X 148 [(16,.vars (muV m))] [.c (.ptr 16 0 0)] (fun H r=>H=[(16,.vars (muV (createM m)))]/\r = .tup []):=by
 refine zGO X_ok Tryz.f148 fun hb hH=>⟨rfl,?_⟩
 unfold createM
 show ACall ..
 refine za (zbf m h) rfl ?_
 show ABr (decide (m.t.pc>0)) _ _
 by_cases h1:0<m.t.pc
 ·rw[if_pos h1,decide_eq_true (show m.t.pc>0 from h1)]
  refine zYE (by decide) ?_
  show ADCall ..
  refine .any (.tup []) [(16,.vars (muV (zca m m.op.a m.t.x)))] (.hand [(16,16)] [(16,.vars (muV m))] [.c (.ptr 16 0 0),.int m.op.a,.int m.t.x] _ (.cons _ _ _ _ (.c _ _ (.ptr _ _ _ _ rfl)) (.cons _ _ _ _ .same (.cons _ _ _ _ .same .nil))) (.old 16 16 _ _ _ rfl rfl (.vars _ _ (zb rfl)) .nil) rfl (zi9 m m.op.a m.t.x ht) ?_) ?_
  ·rintro H r ⟨rfl,rfl⟩ _ _
   exact⟨rfl,.inl rfl,rfl,rfl⟩
  show ACall ..
  refine .hand [(16,16)] [(16,.vars (muV (zca m m.op.a m.t.x)))] [.c (.ptr 16 0 0),.int 0,.int 0] _ (.cons _ _ _ _ (.c _ _ (.ptr _ _ _ _ rfl)) (.cons _ _ _ _ .same (.cons _ _ _ _ .same .nil))) (.old 16 16 _ _ _ rfl rfl (.vars _ _ (zb rfl)) .nil) rfl (zaE (zca m m.op.a m.t.x) 0 0 (by rw[ziR];exact h)) ?_
  rintro H r ⟨rfl,rfl⟩ _ _
  refine⟨rfl,.inl rfl,?_⟩
  show ARet ..
  exact⟨[(16,16)],[(16,.vars (muV (endM (zca m m.op.a m.t.x) 0 0)))],[],.nil,.old 16 16 _ _ _ rfl rfl (.vars _ _ (zb rfl)) .nil,rfl,rfl,rfl⟩
 ·rw[if_neg h1,decide_eq_false (show ¬m.t.pc>0 from h1)]
  refine zNO (by decide) ?_
  show ACall ..
  refine za (ziJ m.op.b) rfl ?_
  show ACall ..
  refine za (zcp m m.op.a) rfl ?_
  show ACall ..
  refine za (zeC (za9 m.op.a) (zap m.op.b)) rfl ?_
  show ABr (zaU (za9 m.op.a) (zap m.op.b) != 0) _ _
  by_cases h2:zaU (za9 m.op.a) (zap m.op.b)≠0
  ·rw[if_pos h2,show(zaU (za9 m.op.a) (zap m.op.b) != 0)=true by simpa using h2]
   refine zYE (by decide) ?_
   show ACall ..
   refine .hand [(16,16)] [(16,.vars (muV m))] [.c (.ptr 16 0 0),.int (zaU (za9 m.op.a) (zap m.op.b)),.int 0] _ (.cons _ _ _ _ (.c _ _ (.ptr _ _ _ _ rfl)) (.cons _ _ _ _ .same (.cons _ _ _ _ .same .nil))) (.old 16 16 _ _ _ rfl rfl (.vars _ _ (zb rfl)) .nil) rfl (zaE m (zaU (za9 m.op.a) (zap m.op.b)) 0 h) ?_
   rintro H r ⟨rfl,rfl⟩ _ _
   refine⟨rfl,.inl rfl,?_⟩
   show ARet ..
   exact⟨[(16,16)],[(16,.vars (muV (endM m (zaU (za9 m.op.a) (zap m.op.b)) 0)))],[],.nil,.old 16 16 _ _ _ rfl rfl (.vars _ _ (zb rfl)) .nil,rfl,rfl,rfl⟩
  ·rw[if_neg h2,show(zaU (za9 m.op.a) (zap m.op.b) != 0)=false by simpa using h2]
   refine zNO (by decide) ?_
   show ADCall ..
   refine .mk _ _ (zrX m m.op.b) rfl ?_
   show ADCall ..
   refine .mk _ _ ((zug m.h m.t.cache (zau m m.op.b) hs hco hlm).uz) rfl ?_
   show ABr (zaC m.h m.t.cache (zau m m.op.b) != 0) _ _
   by_cases h3:zaC m.h m.t.cache (zau m m.op.b)≠0
   ·rw[if_pos h3,show(zaC m.h m.t.cache (zau m m.op.b) != 0)=true by simpa using h3]
    refine zYE (by decide) ?_
    show ACall ..
    refine .hand [(16,16)] [(16,.vars (muV m))] [.c (.ptr 16 0 0),.int (zaC m.h m.t.cache (zau m m.op.b)),.int 0] _ (.cons _ _ _ _ (.c _ _ (.ptr _ _ _ _ rfl)) (.cons _ _ _ _ .same (.cons _ _ _ _ .same .nil))) (.old 16 16 _ _ _ rfl rfl (.vars _ _ (zb rfl)) .nil) rfl (zaE m (zaC m.h m.t.cache (zau m m.op.b)) 0 h) ?_
    rintro H r ⟨rfl,rfl⟩ _ _
    refine⟨rfl,.inl rfl,?_⟩
    show ARet ..
    exact⟨[(16,16)],[(16,.vars (muV (endM m (zaC m.h m.t.cache (zau m m.op.b)) 0)))],[],.nil,.old 16 16 _ _ _ rfl rfl (.vars _ _ (zb rfl)) .nil,rfl,rfl,rfl⟩
   ·rw[if_neg h3,show(zaC m.h m.t.cache (zau m m.op.b) != 0)=false by simpa using h3]
    refine zNO (by decide) ?_
    show ARet ..
    exact⟨[(16,16)],[(16,.vars (muV ({m with h:=zeL m.h m.t.cache (zau m m.op.b),t:={m.t with cache:=takeC m.h m.t.cache (zau m m.op.b),x:=takeA m.h m.t.cache (zau m m.op.b),pc:=1}})))],[],.nil,.old 16 16 _ _ _ rfl rfl (.vars _ _ (zb rfl)) .nil,rfl,rfl,rfl⟩
set_option maxRecDepth 60000 in
theorem zrR (m:Mu) (hl:m.h.light) (ht:m.t.ok) (h:0<m.t.ops.length):Spec X 149 [(16,.vars (muV m))] [.c (.ptr 16 0 0)] (fun H r=>H=[(16,.vars (muV (loadM m)))]/\r = .tup []):=by
 refine zGO X_ok Tryz.f149 fun hb hH=>⟨rfl,?_⟩
 unfold loadM
 show ACall ..
 refine za (zbf m h) rfl ?_
 show ACall ..
 refine za (zcp m m.op.a) rfl ?_
 show ABr (za9 m.op.a != 0) _ _
 by_cases h1:za9 m.op.a≠0
 ·rw[if_pos h1,show(za9 m.op.a != 0)=true by simpa using h1]
  refine zYE (by decide) ?_
  show ACall ..
  refine .hand [(16,16)] [(16,.vars (muV m))] [.c (.ptr 16 0 0),.int (za9 m.op.a),.int 0] _ (.cons _ _ _ _ (.c _ _ (.ptr _ _ _ _ rfl)) (.cons _ _ _ _ .same (.cons _ _ _ _ .same .nil))) (.old 16 16 _ _ _ rfl rfl (.vars _ _ (zb rfl)) .nil) rfl (zaE m (za9 m.op.a) 0 h) ?_
  rintro H r ⟨rfl,rfl⟩ _ _
  refine⟨rfl,.inl rfl,?_⟩
  show ARet ..
  exact⟨[(16,16)],[(16,.vars (muV (endM m (za9 m.op.a) 0)))],[],.nil,.old 16 16 _ _ _ rfl rfl (.vars _ _ (zb rfl)) .nil,rfl,rfl,rfl⟩
 ·rw[if_neg h1,show(za9 m.op.a != 0)=false by simpa using h1]
  refine zNO (by decide) ?_
  show ACall ..
  refine za (zeE m m.op.b m.op.c hl) rfl ?_
  show ABr (zaT m m.op.b m.op.c != 0) _ _
  by_cases h2:zaT m m.op.b m.op.c≠0
  ·rw[if_pos h2,show(zaT m m.op.b m.op.c != 0)=true by simpa using h2]
   refine zYE (by decide) ?_
   show ACall ..
   refine .hand [(16,16)] [(16,.vars (muV m))] [.c (.ptr 16 0 0),.int (zaT m m.op.b m.op.c),.int 0] _ (.cons _ _ _ _ (.c _ _ (.ptr _ _ _ _ rfl)) (.cons _ _ _ _ .same (.cons _ _ _ _ .same .nil))) (.old 16 16 _ _ _ rfl rfl (.vars _ _ (zb rfl)) .nil) rfl (zaE m (zaT m m.op.b m.op.c) 0 h) ?_
   rintro H r ⟨rfl,rfl⟩ _ _
   refine⟨rfl,.inl rfl,?_⟩
   show ARet ..
   exact⟨[(16,16)],[(16,.vars (muV (endM m (zaT m m.op.b m.op.c) 0)))],[],.nil,.old 16 16 _ _ _ rfl rfl (.vars _ _ (zb rfl)) .nil,rfl,rfl,rfl⟩
  ·rw[if_neg h2,show(zaT m m.op.b m.op.c != 0)=false by simpa using h2]
   refine zNO (by decide) ?_
   obtain⟨w1,w2,w3,_⟩:=zgN (Classical.not_not.1 h2)
   show ACall ..
   refine za (zgP m.h.w (zcF m m.op.b m.op.c) w1 ⟨w2,w3⟩) rfl ?_
   show ACall ..
   refine .hand [(16,16)] [(16,.vars (muV m))] [.c (.ptr 16 0 0),.int m.op.a,.int (zez m)] _ (.cons _ _ _ _ (.c _ _ (.ptr _ _ _ _ rfl)) (.cons _ _ _ _ .same (.cons _ _ _ _ .same .nil))) (.old 16 16 _ _ _ rfl rfl (.vars _ _ (zb rfl)) .nil) rfl (zi9 m m.op.a (zez m) ht) ?_
   rintro H r ⟨rfl,rfl⟩ _ _
   refine⟨rfl,.inl rfl,?_⟩
   show ABr (zez m != 0) _ _
   by_cases h3:zez m≠0
   ·rw[if_pos h3,show(zez m != 0)=true by simpa using h3]
    refine zYE (by decide) ?_
    show ACall ..
    refine .hand [(16,16)] [(16,.vars (muV (zca m m.op.a (zez m))))] [.c (.ptr 16 0 0),.int 0,.int 1] _ (.cons _ _ _ _ (.c _ _ (.ptr _ _ _ _ rfl)) (.cons _ _ _ _ .same (.cons _ _ _ _ .same .nil))) (.old 16 16 _ _ _ rfl rfl (.vars _ _ (zb rfl)) .nil) rfl (zaE (zca m m.op.a (zez m)) 0 1 (by rw[ziR];exact h)) ?_
    rintro H r ⟨rfl,rfl⟩ _ _
    refine⟨rfl,.inl rfl,?_⟩
    show ARet ..
    exact⟨[(16,16)],[(16,.vars (muV (endM (zca m m.op.a (zez m)) 0 1)))],[],.nil,.old 16 16 _ _ _ rfl rfl (.vars _ _ (zb rfl)) .nil,rfl,rfl,rfl⟩
   ·rw[if_neg h3,show(zez m != 0)=false by simpa using h3]
    refine zNO (by decide) ?_
    show ACall ..
    refine .hand [(16,16)] [(16,.vars (muV (zca m m.op.a (zez m))))] [.c (.ptr 16 0 0),.int 0,.int 0] _ (.cons _ _ _ _ (.c _ _ (.ptr _ _ _ _ rfl)) (.cons _ _ _ _ .same (.cons _ _ _ _ .same .nil))) (.old 16 16 _ _ _ rfl rfl (.vars _ _ (zb rfl)) .nil) rfl (zaE (zca m m.op.a (zez m)) 0 0 (by rw[ziR];exact h)) ?_
    rintro H r ⟨rfl,rfl⟩ _ _
    refine⟨rfl,.inl rfl,?_⟩
    show ARet ..
    exact⟨[(16,16)],[(16,.vars (muV (endM (zca m m.op.a (zez m)) 0 0)))],[],.nil,.old 16 16 _ _ _ rfl rfl (.vars _ _ (zb rfl)) .nil,rfl,rfl,rfl⟩
set_option maxRecDepth 60000
theorem zjW {a b:Int} (h:¬zaU a b≠0):a=0/\b=0:=by
 unfold zaU at h
 split at h
 ·rename_i h1;exact absurd h1 h
 ·rename_i h1;exact⟨Classical.not_not.1 h1,Classical.not_not.1 h⟩
theorem zqI (m:Mu) (hl:m.h.light) (h:0<m.t.ops.length):Spec X 195 [(16,.vars (muV m))] [.c (.ptr 16 0 0)] (fun H r=>H=[(16,.vars (muV (zgm m)))]/\r = .tup []):=by
 refine zGO X_ok Tryz.f195 fun hb hH=>⟨rfl,?_⟩
 unfold zgm
 show ACall ..
 refine za (zbf m h) rfl ?_
 show ACall ..
 refine za (zeE m m.op.a m.op.b hl) rfl ?_
 show ACall ..
 refine za (zcp m m.op.c) rfl ?_
 show ACall ..
 refine za (zeC (zaT m m.op.a m.op.b) (za9 m.op.c)) rfl ?_
 show ABr (zaU (zaT m m.op.a m.op.b) (za9 m.op.c) != 0) _ _
 by_cases h1:zaU (zaT m m.op.a m.op.b) (za9 m.op.c)≠0
 ·rw[if_pos h1,show(zaU (zaT m m.op.a m.op.b) (za9 m.op.c) != 0)=true by simpa using h1]
  refine zYE (by decide) ?_
  show ACall ..
  refine .hand [(16,16)] [(16,.vars (muV m))] [.c (.ptr 16 0 0),.int (zaU (zaT m m.op.a m.op.b) (za9 m.op.c)),.int 0] _ (.cons _ _ _ _ (.c _ _ (.ptr _ _ _ _ rfl)) (.cons _ _ _ _ .same (.cons _ _ _ _ .same .nil))) (.old 16 16 _ _ _ rfl rfl (.vars _ _ (zb rfl)) .nil) rfl (zaE m (zaU (zaT m m.op.a m.op.b) (za9 m.op.c)) 0 h) ?_
  rintro H r ⟨rfl,rfl⟩ _ _
  refine⟨rfl,.inl rfl,?_⟩
  show ARet ..
  exact⟨[(16,16)],[(16,.vars (muV (endM m (zaU (zaT m m.op.a m.op.b) (za9 m.op.c)) 0)))],[],.nil,.old 16 16 _ _ _ rfl rfl (.vars _ _ (zb rfl)) .nil,rfl,rfl,rfl⟩
 ·rw[if_neg h1,show(zaU (zaT m m.op.a m.op.b) (za9 m.op.c) != 0)=false by simpa using h1]
  refine zNO (by decide) ?_
  obtain⟨w1,w2,w3,_⟩:=zgN (zjW h1).1
  show ACall ..
  refine za (zgP m.h.w (zcF m m.op.a m.op.b) w1 ⟨w2,w3⟩) rfl ?_
  show ADCall ..
  refine .mk _ _ (zmD {m.t with x:=zf m.h (zcF m m.op.a m.op.b)} m.op.c) rfl ?_
  show ARet ..
  exact⟨[(16,16)],[(16,.vars (muV ({m with t:={m.t with x:=zf m.h (zcF m m.op.a m.op.b),y:=getA m.t m.op.c,pc:=1}})))],[],.nil,.old 16 16 _ _ _ rfl rfl (.vars _ _ (zb rfl)) .nil,rfl,rfl,rfl⟩
theorem zjP (m:Mu) (a:Int) (hl:m.h.light) (hs:m.h.small) (hw:m.c.work.length<zi) (hp:0<=m.t.pc/\m.t.pc<=4):Spec X 237 [(16,.vars (muV m))] [.c (.ptr 16 0 0),.int a] (fun H r=>H=[(16,.vars (muV (zb3 m a)))]/\r = .tup []):=by
 refine zGO X_ok Tryz.f237 fun hb hH=>⟨rfl,?_⟩
 unfold zb3 zdZ
 have hwr:IntKind.i64.wrap (m.t.pc+1)=m.t.pc+1:=zu (by omega) (by omega)
 show ADCall ..
 refine .mk _ _ (zr3 m.c m.t) rfl ?_
 cases hb:decide (m.t.epoch=m.c.epoch/\1<=m.c.phase/\m.c.phase<=5) with
 |true=>
  rw[if_pos rfl,if_pos rfl]
  refine zYE (by decide) ?_
  show ADCall ..
  refine .mk _ _ (zcn m.h m.c a hl hs hw) rfl ?_
  show ARet ..
  rw[hwr]
  exact⟨[(16,16)],[(16,.vars (muV {m with h:=zJ m.h m.c a,c:=zE m.h m.c a,t:={m.t with pc:=m.t.pc+1}}))],[],.nil,.old 16 16 _ _ _ rfl rfl (.vars _ _ (zb rfl)) .nil,rfl,rfl,rfl⟩
 |false=>
  rw[if_neg (by decide),if_neg (by decide)]
  refine zNO (by decide) ?_
  show ARet ..
  rw[hwr]
  exact⟨[(16,16)],[(16,.vars (muV {m with t:={m.t with pc:=m.t.pc+1}}))],[],.nil,.old 16 16 _ _ _ rfl rfl (.vars _ _ (zb rfl)) .nil,rfl,rfl,rfl⟩
theorem zt8 (m:Mu) (hl:m.h.light) (hs:m.h.small) (hw:m.c.work.length<zi) (hp:0<=m.t.pc/\m.t.pc<=4):Spec X 196 [(16,.vars (muV m))] [.c (.ptr 16 0 0)] (fun H r=>H=[(16,.vars (muV (zb3 m m.t.x)))]/\r = .tup []):=by
 refine zGO X_ok Tryz.f196 fun hb hH=>⟨rfl,?_⟩
 show ACall ..
 refine .hand [(16,16)] [(16,.vars (muV m))] [.c (.ptr 16 0 0),.int m.t.x] _ (.cons _ _ _ _ (.c _ _ (.ptr _ _ _ _ rfl)) (.cons _ _ _ _ .same .nil)) (.old 16 16 _ _ _ rfl rfl (.vars _ _ (zb rfl)) .nil) rfl (zjP m m.t.x hl hs hw hp) ?_
 rintro H r ⟨rfl,rfl⟩ _ _
 refine⟨rfl,.inl rfl,?_⟩
 show ARet ..
 exact⟨[(16,16)],[(16,.vars (muV (zb3 m m.t.x)))],[],.nil,.old 16 16 _ _ _ rfl rfl (.vars _ _ (zb rfl)) .nil,rfl,rfl,rfl⟩
theorem zpy (m:Mu) (hl:m.h.light) (hs:m.h.small) (hw:m.c.work.length<zi) (hp:0<=m.t.pc/\m.t.pc<=4):Spec X 197 [(16,.vars (muV m))] [.c (.ptr 16 0 0)] (fun H r=>H=[(16,.vars (muV (zb3 m m.t.y)))]/\r = .tup []):=by
 refine zGO X_ok Tryz.f197 fun hb hH=>⟨rfl,?_⟩
 show ACall ..
 refine .hand [(16,16)] [(16,.vars (muV m))] [.c (.ptr 16 0 0),.int m.t.y] _ (.cons _ _ _ _ (.c _ _ (.ptr _ _ _ _ rfl)) (.cons _ _ _ _ .same .nil)) (.old 16 16 _ _ _ rfl rfl (.vars _ _ (zb rfl)) .nil) rfl (zjP m m.t.y hl hs hw hp) ?_
 rintro H r ⟨rfl,rfl⟩ _ _
 refine⟨rfl,.inl rfl,?_⟩
 show ARet ..
 exact⟨[(16,16)],[(16,.vars (muV (zb3 m m.t.y)))],[],.nil,.old 16 16 _ _ _ rfl rfl (.vars _ _ (zb rfl)) .nil,rfl,rfl,rfl⟩
theorem zpv (m:Mu) (hl:m.h.light) (h:0<m.t.ops.length):Spec X 198 [(16,.vars (muV m))] [.c (.ptr 16 0 0)] (fun H r=>H=[(16,.vars (muV (zfY m)))]/\r = .tup []):=by
 refine zGO X_ok Tryz.f198 fun hb hH=>⟨rfl,?_⟩
 unfold zfY
 show ACall ..
 refine za (zbf m h) rfl ?_
 show ACall ..
 refine za (zbf m h) rfl ?_
 show ACall ..
 refine za (zeE m m.op.a m.op.b hl) rfl ?_
 show ABr (zaT m m.op.a m.op.b != 0) _ _
 by_cases h1:zaT m m.op.a m.op.b≠0
 ·rw[if_pos h1,show(zaT m m.op.a m.op.b != 0)=true by simpa using h1]
  refine zYE (by decide) ?_
  show ACall ..
  refine .hand [(16,16)] [(16,.vars (muV m))] [.c (.ptr 16 0 0),.int 5,.int 0] _ (.cons _ _ _ _ (.c _ _ (.ptr _ _ _ _ rfl)) (.cons _ _ _ _ .same (.cons _ _ _ _ .same .nil))) (.old 16 16 _ _ _ rfl rfl (.vars _ _ (zb rfl)) .nil) rfl (zaE m 5 0 h) ?_
  rintro H r ⟨rfl,rfl⟩ _ _
  refine⟨rfl,.inl rfl,?_⟩
  show ARet ..
  exact⟨[(16,16)],[(16,.vars (muV (endM m 5 0)))],[],.nil,.old 16 16 _ _ _ rfl rfl (.vars _ _ (zb rfl)) .nil,rfl,rfl,rfl⟩
 ·rw[if_neg h1,show(zaT m m.op.a m.op.b != 0)=false by simpa using h1]
  refine zNO (by decide) ?_
  obtain⟨w1,w2,w3,_⟩:=zgN (Classical.not_not.1 h1)
  show ADCall ..
  refine .mk _ _ (ze8 m.h.w (zcF m m.op.a m.op.b) m.t.y w1 ⟨w2,w3⟩) rfl ?_
  show ACall ..
  refine .hand [(16,16)] [(16,.vars (muV ({m with h:={m.h with w:=m.h.w.set (zcF m m.op.a m.op.b-16).toNat m.t.y}})))] [.c (.ptr 16 0 0),.int 0,.int 0] _ (.cons _ _ _ _ (.c _ _ (.ptr _ _ _ _ rfl)) (.cons _ _ _ _ .same (.cons _ _ _ _ .same .nil))) (.old 16 16 _ _ _ rfl rfl (.vars _ _ (zb rfl)) .nil) rfl (zhP ({m with h:={m.h with w:=m.h.w.set (zcF m m.op.a m.op.b-16).toNat m.t.y}}) 0 0 h) ?_
  rintro H r ⟨rfl,rfl⟩ _ _
  refine⟨rfl,.inl rfl,?_⟩
  show ARet ..
  exact⟨[(16,16)],[(16,.vars (muV ({ziN m 0 0 with h:={m.h with w:=m.h.w.set (zcF m m.op.a m.op.b-16).toNat m.t.y},t:={m.t with pc:=4}})))],[],.nil,.old 16 16 _ _ _ rfl rfl (.vars _ _ (zb rfl)) .nil,rfl,rfl,rfl⟩
theorem zo4 (m:Mu) (hl:m.h.light) (h:0<m.t.ops.length):Spec X 199 [(16,.vars (muV m))] [.c (.ptr 16 0 0)] (fun H r=>H=[(16,.vars (muV (zf2 m)))]/\r = .tup []):=by
 refine zGO X_ok Tryz.f199 fun hb hH=>⟨rfl,?_⟩
 unfold zf2
 show ACall ..
 refine za (zbf m h) rfl ?_
 show ACall ..
 refine za (zbf m h) rfl ?_
 show ACall ..
 refine za (zeE m m.op.a m.op.b hl) rfl ?_
 show ABr (zaT m m.op.a m.op.b==0) _ _
 by_cases h1:zaT m m.op.a m.op.b=0
 ·rw[if_pos h1,show(zaT m m.op.a m.op.b==0)=true by simpa using h1]
  refine zYE (by decide) ?_
  obtain⟨w1,w2,w3,w4,w5,_⟩:=zgN h1
  show ACall ..
  refine za (zh2 m.h (zcZ m m.op.a m.op.b) hl (by omega)) rfl ?_
  show ACall ..
  refine .hand [(16,16)] [(16,.vars (muV ({m with h:=zaN m.h (zcZ m m.op.a m.op.b)})))] [.c (.ptr 16 0 0)] _ (.cons _ _ _ _ (.c _ _ (.ptr _ _ _ _ rfl)) .nil) (.old 16 16 _ _ _ rfl rfl (.vars _ _ (zb rfl)) .nil) rfl (zhV ({m with h:=zaN m.h (zcZ m m.op.a m.op.b)}) h) ?_
  rintro H r ⟨rfl,rfl⟩ _ _
  refine⟨rfl,.inl rfl,?_⟩
  show ARet ..
  exact⟨[(16,16)],[(16,.vars (muV (zka ({m with h:=zaN m.h (zcZ m m.op.a m.op.b)}))))],[],.nil,.old 16 16 _ _ _ rfl rfl (.vars _ _ (zb rfl)) .nil,rfl,rfl,rfl⟩
 ·rw[if_neg h1,show(zaT m m.op.a m.op.b==0)=false by simpa using h1]
  refine zNO (by decide) ?_
  show ACall ..
  refine .hand [(16,16)] [(16,.vars (muV m))] [.c (.ptr 16 0 0)] _ (.cons _ _ _ _ (.c _ _ (.ptr _ _ _ _ rfl)) .nil) (.old 16 16 _ _ _ rfl rfl (.vars _ _ (zb rfl)) .nil) rfl (zhV m h) ?_
  rintro H r ⟨rfl,rfl⟩ _ _
  refine⟨rfl,.inl rfl,?_⟩
  show ARet ..
  exact⟨[(16,16)],[(16,.vars (muV (zka m)))],[],.nil,.old 16 16 _ _ _ rfl rfl (.vars _ _ (zb rfl)) .nil,rfl,rfl,rfl⟩
def pcM (m:Mu) (k:Int):Mu:={m with t:={m.t with pc:=k}}
theorem zlf {m:Mu} {k:Int} (h:m.t.pc=k):pcM m k=m:=by
 subst h
 rfl
theorem znK (m:Mu) (hl:m.h.light) (h:0<m.t.ops.length):Spec X 150 [(16,.vars (muV (pcM m 0)))] [.c (.ptr 16 0 0)] (fun H r=>H=[(16,.vars (muV (storeM (pcM m 0))))]/\r = .tup []):=by
 refine zGO X_ok Tryz.f150 fun hb hH=>⟨rfl,?_⟩
 show AOb ((0:Int)<=0/\(0:Int)<5) _
 refine⟨by decide,?_⟩
 show ACall ..
 refine .hand [(16,16)] [(16,.vars (muV (pcM m 0)))] [.c (.ptr 16 0 0)] _ (.cons _ _ _ _ (.c _ _ (.ptr _ _ _ _ rfl)) .nil) (.old 16 16 _ _ _ rfl rfl (.vars _ _ (zb rfl)) .nil) rfl (zqI (pcM m 0) hl h) ?_
 rintro H r ⟨rfl,rfl⟩ _ _
 refine⟨rfl,.inl rfl,?_⟩
 show ARet ..
 exact⟨[(16,16)],[(16,.vars (muV (storeM (pcM m 0))))],[],.nil,.old 16 16 _ _ _ rfl rfl (.vars _ _ (zb rfl)) .nil,rfl,rfl,rfl⟩
theorem znA (m:Mu) (hl:m.h.light) (hs:m.h.small) (hw:m.c.work.length<zi) (h:0<m.t.ops.length):Spec X 150 [(16,.vars (muV (pcM m 1)))] [.c (.ptr 16 0 0)] (fun H r=>H=[(16,.vars (muV (storeM (pcM m 1))))]/\r = .tup []):=by
 refine zGO X_ok Tryz.f150 fun hb hH=>⟨rfl,?_⟩
 show AOb ((0:Int)<=1/\(1:Int)<5) _
 refine⟨by decide,?_⟩
 show ACall ..
 refine .hand [(16,16)] [(16,.vars (muV (pcM m 1)))] [.c (.ptr 16 0 0)] _ (.cons _ _ _ _ (.c _ _ (.ptr _ _ _ _ rfl)) .nil) (.old 16 16 _ _ _ rfl rfl (.vars _ _ (zb rfl)) .nil) rfl (zt8 (pcM m 1) hl hs hw (by show(0:Int)<=1/\(1:Int)<=4;decide)) ?_
 rintro H r ⟨rfl,rfl⟩ _ _
 refine⟨rfl,.inl rfl,?_⟩
 show ARet ..
 exact⟨[(16,16)],[(16,.vars (muV (storeM (pcM m 1))))],[],.nil,.old 16 16 _ _ _ rfl rfl (.vars _ _ (zb rfl)) .nil,rfl,rfl,rfl⟩
theorem znI (m:Mu) (hl:m.h.light) (hs:m.h.small) (hw:m.c.work.length<zi) (h:0<m.t.ops.length):Spec X 150 [(16,.vars (muV (pcM m 2)))] [.c (.ptr 16 0 0)] (fun H r=>H=[(16,.vars (muV (storeM (pcM m 2))))]/\r = .tup []):=by
 refine zGO X_ok Tryz.f150 fun hb hH=>⟨rfl,?_⟩
 show AOb ((0:Int)<=2/\(2:Int)<5) _
 refine⟨by decide,?_⟩
 show ACall ..
 refine .hand [(16,16)] [(16,.vars (muV (pcM m 2)))] [.c (.ptr 16 0 0)] _ (.cons _ _ _ _ (.c _ _ (.ptr _ _ _ _ rfl)) .nil) (.old 16 16 _ _ _ rfl rfl (.vars _ _ (zb rfl)) .nil) rfl (zpy (pcM m 2) hl hs hw (by show(0:Int)<=2/\(2:Int)<=4;decide)) ?_
 rintro H r ⟨rfl,rfl⟩ _ _
 refine⟨rfl,.inl rfl,?_⟩
 show ARet ..
 exact⟨[(16,16)],[(16,.vars (muV (storeM (pcM m 2))))],[],.nil,.old 16 16 _ _ _ rfl rfl (.vars _ _ (zb rfl)) .nil,rfl,rfl,rfl⟩
theorem zog (m:Mu) (hl:m.h.light) (h:0<m.t.ops.length):Spec X 150 [(16,.vars (muV (pcM m 3)))] [.c (.ptr 16 0 0)] (fun H r=>H=[(16,.vars (muV (storeM (pcM m 3))))]/\r = .tup []):=by
 refine zGO X_ok Tryz.f150 fun hb hH=>⟨rfl,?_⟩
 show AOb ((0:Int)<=3/\(3:Int)<5) _
 refine⟨by decide,?_⟩
 show ACall ..
 refine .hand [(16,16)] [(16,.vars (muV (pcM m 3)))] [.c (.ptr 16 0 0)] _ (.cons _ _ _ _ (.c _ _ (.ptr _ _ _ _ rfl)) .nil) (.old 16 16 _ _ _ rfl rfl (.vars _ _ (zb rfl)) .nil) rfl (zpv (pcM m 3) hl h) ?_
 rintro H r ⟨rfl,rfl⟩ _ _
 refine⟨rfl,.inl rfl,?_⟩
 show ARet ..
 exact⟨[(16,16)],[(16,.vars (muV (storeM (pcM m 3))))],[],.nil,.old 16 16 _ _ _ rfl rfl (.vars _ _ (zb rfl)) .nil,rfl,rfl,rfl⟩
theorem znC (m:Mu) (hl:m.h.light) (h:0<m.t.ops.length):Spec X 150 [(16,.vars (muV (pcM m 4)))] [.c (.ptr 16 0 0)] (fun H r=>H=[(16,.vars (muV (storeM (pcM m 4))))]/\r = .tup []):=by
 refine zGO X_ok Tryz.f150 fun hb hH=>⟨rfl,?_⟩
 show AOb ((0:Int)<=4/\(4:Int)<5) _
 refine⟨by decide,?_⟩
 show ACall ..
 refine .hand [(16,16)] [(16,.vars (muV (pcM m 4)))] [.c (.ptr 16 0 0)] _ (.cons _ _ _ _ (.c _ _ (.ptr _ _ _ _ rfl)) .nil) (.old 16 16 _ _ _ rfl rfl (.vars _ _ (zb rfl)) .nil) rfl (zo4 (pcM m 4) hl h) ?_
 rintro H r ⟨rfl,rfl⟩ _ _
 refine⟨rfl,.inl rfl,?_⟩
 show ARet ..
 exact⟨[(16,16)],[(16,.vars (muV (storeM (pcM m 4))))],[],.nil,.old 16 16 _ _ _ rfl rfl (.vars _ _ (zb rfl)) .nil,rfl,rfl,rfl⟩
theorem zqr (m:Mu) (hl:m.h.light) (hs:m.h.small) (hw:m.c.work.length<zi) (h:0<m.t.ops.length) (hp:0<=m.t.pc/\m.t.pc<=4):Spec X 150 [(16,.vars (muV m))] [.c (.ptr 16 0 0)] (fun H r=>H=[(16,.vars (muV (storeM m)))]/\r = .tup []):=by
 have e:m.t.pc=0\/m.t.pc=1\/m.t.pc=2\/m.t.pc=3\/m.t.pc=4:=by omega
 rcases e with e|e|e|e|e
 ·have:=znK m hl h;rw[zlf e]at this;exact this
 ·have:=znA m hl hs hw h;rw[zlf e]at this;exact this
 ·have:=znI m hl hs hw h;rw[zlf e]at this;exact this
 ·have:=zog m hl h;rw[zlf e]at this;exact this
 ·have:=znC m hl h;rw[zlf e]at this;exact this
theorem zsf (m:Mu) (ht:m.t.ok) (h:0<m.t.ops.length):Spec X 151 [(16,.vars (muV m))] [.c (.ptr 16 0 0)] (fun H r=>H=[(16,.vars (muV (dropM m)))]/\r = .tup []):=by
 refine zGO X_ok Tryz.f151 fun hb hH=>⟨rfl,?_⟩
 unfold dropM
 show ACall ..
 refine za (zbf m h) rfl ?_
 show ACall ..
 refine za (zcp m m.op.a) rfl ?_
 show ACall ..
 refine za (zbf m h) rfl ?_
 show ACall ..
 refine .hand [(16,16)] [(16,.vars (muV m))] [.c (.ptr 16 0 0),.int m.op.a,.int 0] _ (.cons _ _ _ _ (.c _ _ (.ptr _ _ _ _ rfl)) (.cons _ _ _ _ .same (.cons _ _ _ _ .same .nil))) (.old 16 16 _ _ _ rfl rfl (.vars _ _ (zb rfl)) .nil) rfl (zi9 m m.op.a 0 ht) ?_
 rintro H r ⟨rfl,rfl⟩ _ _
 refine⟨rfl,.inl rfl,?_⟩
 show ACall ..
 refine .hand [(16,16)] [(16,.vars (muV (zca m m.op.a 0)))] [.c (.ptr 16 0 0),.int (za9 m.op.a),.int 0] _ (.cons _ _ _ _ (.c _ _ (.ptr _ _ _ _ rfl)) (.cons _ _ _ _ .same (.cons _ _ _ _ .same .nil))) (.old 16 16 _ _ _ rfl rfl (.vars _ _ (zb rfl)) .nil) rfl (zaE (zca m m.op.a 0) (za9 m.op.a) 0 (by rw[ziR];exact h)) ?_
 rintro H r ⟨rfl,rfl⟩ _ _
 refine⟨rfl,.inl rfl,?_⟩
 show ARet ..
 exact⟨[(16,16)],[(16,.vars (muV (endM (zca m m.op.a 0) (za9 m.op.a) 0)))],[],.nil,.old 16 16 _ _ _ rfl rfl (.vars _ _ (zb rfl)) .nil,rfl,rfl,rfl⟩
theorem zsE (m:Mu) (hl:m.h.light) (h:0<m.t.ops.length):Spec X 153 [(16,.vars (muV m))] [.c (.ptr 16 0 0)] (fun H r=>H=[(16,.vars (muV (sizeM m)))]/\r = .tup []):=by
 refine zGO X_ok Tryz.f153 fun hb hH=>⟨rfl,?_⟩
 unfold sizeM
 show ADCall ..
 refine .mk _ _ (zbf m h) rfl ?_
 show ADCall ..
 refine .mk _ _ (zjU m.h m.t m.op.a hl) rfl ?_
 show ACall ..
 refine .hand [(16,16)] [(16,.vars (muV m))] [.c (.ptr 16 0 0),.int (zdl m.h m.t m.op.a),.int (zd8 m.h m.t m.op.a)] _ (.cons _ _ _ _ (.c _ _ (.ptr _ _ _ _ rfl)) (.cons _ _ _ _ .same (.cons _ _ _ _ .same .nil))) (.old 16 16 _ _ _ rfl rfl (.vars _ _ (zb rfl)) .nil) rfl (zaE m (zdl m.h m.t m.op.a) (zd8 m.h m.t m.op.a) h) ?_
 rintro H r ⟨rfl,rfl⟩ _ _
 refine⟨rfl,.inl rfl,?_⟩
 show ARet ..
 exact⟨[(16,16)],[(16,.vars (muV (endM m (zdl m.h m.t m.op.a) (zd8 m.h m.t m.op.a))))],[],.nil,.old 16 16 _ _ _ rfl rfl (.vars _ _ (zb rfl)) .nil,rfl,rfl,rfl⟩
theorem zqX (m:Mu) (hs:m.h.small) (hlm:(flats (zec m.h [m.t.cache])).length<=zi) (h:0<m.t.ops.length):Spec X 154 [(16,.vars (muV m))] [.c (.ptr 16 0 0)] (fun H r=>H=[(16,.vars (muV (exitM m)))]/\r = .tup []):=by
 refine zGO X_ok Tryz.f154 fun hb hH=>⟨rfl,?_⟩
 unfold exitM
 show ACall ..
 refine .hand [(16,16)] [(16,.vars (muV m))] [.c (.ptr 16 0 0),.int 0,.int 0] _ (.cons _ _ _ _ (.c _ _ (.ptr _ _ _ _ rfl)) (.cons _ _ _ _ .same (.cons _ _ _ _ .same .nil))) (.old 16 16 _ _ _ rfl rfl (.vars _ _ (zb rfl)) .nil) rfl (zhP m 0 0 h) ?_
 rintro H r ⟨rfl,rfl⟩ _ _
 refine⟨rfl,.inl rfl,?_⟩
 show ADCall ..
 refine .mk _ _ ((zrI m.h m.t.cache hs hlm).uz) rfl ?_
 show ARet ..
 refine⟨[(16,16)],[(16,.vars (muV {ziN m 0 0 with h:=zgB m.h m.t.cache,t:=Thread.zero}))],[],.nil,.old 16 16 _ _ _ rfl rfl (.vars _ _ ?_) .nil,rfl,rfl,rfl⟩
 repeat (first|exact .nil|refine .cons _ _ _ _ (.d _) ?_|refine .cons _ _ _ _ (.nilsl _) ?_)
theorem ztw (m:Mu) (h:0<m.t.ops.length):Spec X 155 [(16,.vars (muV m))] [.c (.ptr 16 0 0)] (fun H r=>H=[(16,.vars (muV (endM m 1 0)))]/\r = .tup []):=by
 refine zGO X_ok Tryz.f155 fun hb hH=>⟨rfl,?_⟩
 show ACall ..
 refine .hand [(16,16)] [(16,.vars (muV m))] [.c (.ptr 16 0 0),.int 1,.int 0] _ (.cons _ _ _ _ (.c _ _ (.ptr _ _ _ _ rfl)) (.cons _ _ _ _ .same (.cons _ _ _ _ .same .nil))) (.old 16 16 _ _ _ rfl rfl (.vars _ _ (zb rfl)) .nil) rfl (zaE m 1 0 h) ?_
 rintro H r ⟨rfl,rfl⟩ _ _
 refine⟨rfl,.inl rfl,?_⟩
 show ARet ..
 exact⟨[(16,16)],[(16,.vars (muV (endM m 1 0)))],[],.nil,.old 16 16 _ _ _ rfl rfl (.vars _ _ (zb rfl)) .nil,rfl,rfl,rfl⟩
theorem zcs (m:Mu) (x:Op) (h:0<m.t.ops.length) (hx:m.op=x):Spec X 157 [] [.c (.d (.rp m.cells))] (Ret [] (.dagg (EK.enc .op x))):=hx▸zbf m h
set_option maxHeartbeats 4000000 in
theorem zqe (m:Mu) (k i j c:Int) (h:0<m.t.ops.length) (hx:m.op=⟨k,i,j,c⟩) (hi:i=0\/i=1\/i=2\/i=3) (hj:j=0\/j=1\/j=2\/j=3):Spec X 152 [(16,.vars (muV m))] [.c (.ptr 16 0 0)] (fun H r=>H=[(16,.vars (muV (sameM m)))]/\r = .tup []):=by
 have hE:zfG m=0:=by
  unfold zfG
  rw[hx]
  rcases hi with rfl|rfl|rfl|rfl<;>rcases hj with rfl|rfl|rfl|rfl<;>rfl
 unfold sameM
 rw[hE]
 rcases hi with rfl|rfl|rfl|rfl<;>rcases hj with rfl|rfl|rfl|rfl
 all_goals
  refine zGO X_ok Tryz.f152 fun hb hH=>⟨rfl,?_⟩
  show ACall ..
  refine za (zcs m _ h hx) rfl ?_
  show ADCall ..
  refine .mk _ _ (zcp m _) rfl ?_
  show ADCall ..
  refine .mk _ _ (zcp m _) rfl ?_
  show ADCall ..
  refine .mk _ _ (zeC _ _) rfl ?_
  show ABr ..
  refine⟨fun _=>?_,fun h=>absurd h (by dsimp only;decide)⟩
  show AOb ..
  refine⟨by show(0:Int)<=_/\_<(4:Int);dsimp only;decide,?_⟩
  show AOb ..
  refine⟨by show(0:Int)<=_/\_<(4:Int);dsimp only;decide,?_⟩
  show ABr (_==_) _ _
  refine⟨fun h1=>?_,fun h1=>?_⟩
  ·rw[if_pos ⟨rfl,by first|(rw[hx];done)|(rw[hx];exact eq_of_beq h1)⟩]
   show ACall ..
   refine .hand [(16,16)] [(16,.vars (muV m))] [.c (.ptr 16 0 0),.int 0,.int 1] _ (.cons _ _ _ _ (.c _ _ (.ptr _ _ _ _ rfl)) (.cons _ _ _ _ .same (.cons _ _ _ _ .same .nil))) (.old 16 16 _ _ _ rfl rfl (.vars _ _ (zb rfl)) .nil) rfl (zaE m 0 1 h) ?_
   rintro H r ⟨rfl,rfl⟩ _ _
   refine⟨rfl,.inl rfl,?_⟩
   show ARet ..
   exact⟨[(16,16)],[(16,.vars (muV (endM m 0 1)))],[],.nil,.old 16 16 _ _ _ rfl rfl (.vars _ _ (zb rfl)) .nil,rfl,rfl,rfl⟩
  ·rw[if_neg (fun e=>by
    have e2:=e.2
    rw[hx]at e2
    exact(beq_eq_false_iff_ne.1 h1) e2)]
   show ACall ..
   refine .hand [(16,16)] [(16,.vars (muV m))] [.c (.ptr 16 0 0),.int 0,.int 0] _ (.cons _ _ _ _ (.c _ _ (.ptr _ _ _ _ rfl)) (.cons _ _ _ _ .same (.cons _ _ _ _ .same .nil))) (.old 16 16 _ _ _ rfl rfl (.vars _ _ (zb rfl)) .nil) rfl (zaE m 0 0 h) ?_
   rintro H r ⟨rfl,rfl⟩ _ _
   refine⟨rfl,.inl rfl,?_⟩
   show ARet ..
   exact⟨[(16,16)],[(16,.vars (muV (endM m 0 0)))],[],.nil,.old 16 16 _ _ _ rfl rfl (.vars _ _ (zb rfl)) .nil,rfl,rfl,rfl⟩
theorem zoN (m:Mu) (h:0<m.t.ops.length) (hE:zfG m≠0):Spec X 152 [(16,.vars (muV m))] [.c (.ptr 16 0 0)] (fun H r=>H=[(16,.vars (muV (sameM m)))]/\r = .tup []):=by
 refine zGO X_ok Tryz.f152 fun hb hH=>⟨rfl,?_⟩
 unfold sameM
 rw[if_neg (fun k=>hE k.1)]
 show ACall ..
 refine za (zbf m h) rfl ?_
 show ADCall ..
 refine .mk _ _ (zcp m m.op.a) rfl ?_
 show ADCall ..
 refine .mk _ _ (zcp m m.op.b) rfl ?_
 show ADCall ..
 refine .mk _ _ (zeC (za9 m.op.a) (za9 m.op.b)) rfl ?_
 show ABr (zfG m==0) _ _
 rw[show(zfG m==0)=false by simpa using hE]
 refine zNO (by decide) ?_
 refine zNO (by decide) ?_
 show ACall ..
 refine .hand [(16,16)] [(16,.vars (muV m))] [.c (.ptr 16 0 0),.int (zfG m),.int 0] _ (.cons _ _ _ _ (.c _ _ (.ptr _ _ _ _ rfl)) (.cons _ _ _ _ .same (.cons _ _ _ _ .same .nil))) (.old 16 16 _ _ _ rfl rfl (.vars _ _ (zb rfl)) .nil) rfl (zaE m (zfG m) 0 h) ?_
 rintro H r ⟨rfl,rfl⟩ _ _
 refine⟨rfl,.inl rfl,?_⟩
 show ARet ..
 exact⟨[(16,16)],[(16,.vars (muV (endM m (zfG m) 0)))],[],.nil,.old 16 16 _ _ _ rfl rfl (.vars _ _ (zb rfl)) .nil,rfl,rfl,rfl⟩
theorem zrM (m:Mu) (h:0<m.t.ops.length):Spec X 152 [(16,.vars (muV m))] [.c (.ptr 16 0 0)] (fun H r=>H=[(16,.vars (muV (sameM m)))]/\r = .tup []):=by
 by_cases hE:zfG m=0
 ·have h2:za9 m.op.a=0/\za9 m.op.b=0:=zjW (by unfold zfG at hE;exact fun k=>k hE)
  unfold za9 at h2
  have ha:0<=m.op.a/\m.op.a<=3:=Classical.byContradiction fun k=>by rw[if_neg k]at h2;exact absurd h2.1 (by decide)
  have hb:0<=m.op.b/\m.op.b<=3:=Classical.byContradiction fun k=>by rw[if_neg k]at h2;exact absurd h2.2 (by decide)
  have key:∀i j:Int,m.op.a=i->m.op.b=j->m.op=⟨m.op.kind,i,j,m.op.c⟩:=fun i j e1 e2=>by rw[←e1,←e2]
  have ea:m.op.a=0\/m.op.a=1\/m.op.a=2\/m.op.a=3:=by omega
  have eb:m.op.b=0\/m.op.b=1\/m.op.b=2\/m.op.b=3:=by omega
  exact zqe m _ _ _ _ h (key _ _ rfl rfl) ea eb
 ·exact zoN m h hE
def mu0 (g:Hp) (c:Col) (t:Thread):Mu:=⟨g,c,t,Res.zero,false⟩
def zha (m:Mu):TV:=.tup [m.h.tv,m.c.tv,m.t.tv,.dagg (EK.enc .res m.r),.bo m.told]
theorem zpJ (g:Hp) (c:Col) (t:Thread) (hs:g.small) (hlm:(flats (zec g [t.cache])).length<=zi) (hw:c.work.length<zi) (ht:t.ok) (hm:zg8 g t=false):Spec X 116 [] [g.tv,c.tv,t.tv] (Ret [] (zha (mutS g c t))):=by
 refine zGO X_ok Tryz.f116 fun hb hH=>⟨rfl,?_⟩
 unfold mutS
 rw[if_neg (by rw[hm];decide)]
 show ACall ..
 refine .mk _ (zb1 g c t hs (Nat.le_of_lt hw) ht) fun H r ⟨eH,er⟩ _ _=>⟨.inl rfl,?_⟩
 subst eH er
 show ACall ..
 refine za ((zbV g t hlm).uz) rfl ?_
 rw[hm]
 refine zNO (by decide) ?_
 show ARet ..
 exact zg rfl ⟨rfl,rfl⟩
theorem zoR (g:Hp) (c:Col) (t:Thread) (a b d:Int) (hs:g.small) (hl:g.light) (hlm:(flats (zec g [t.cache])).length<=zi) (hw:c.work.length<zi) (ht:t.ok) (hco:t.cache.ok) (hm:zg8 g t=true) (h:0<t.ops.length) (hp:0<=t.pc/\t.pc<=4) (hx:(mu0 g c t).op=⟨0,a,b,d⟩):Spec X 116 [] [g.tv,c.tv,t.tv] (Ret [] (zha (createM (mu0 g c t)))):=by
 refine zGO X_ok Tryz.f116 fun hb hH=>⟨rfl,?_⟩
 show ACall ..
 refine .mk _ (zb1 g c t hs (Nat.le_of_lt hw) ht) fun H r ⟨eH,er⟩ _ _=>⟨.inl rfl,?_⟩
 subst eH er
 show ACall ..
 refine za ((zbV g t hlm).uz) rfl ?_
 rw[hm]
 refine zYE (by decide) ?_
 show ACall ..
 refine za (zcs (mu0 g c t) _ h hx) rfl ?_
 show ABr (bif decide ((0:Int)>=0) then decide ((0:Int)<7) else false) _ _
 refine zYE (by decide) ?_
 show AOb ..
 refine⟨by show(0:Int)<=0/\(0:Int)<7;decide,?_⟩
 show ACall ..
 refine .hand [(_,16)] [(16,.vars (muV (mu0 g c t)))] [.c (.ptr 16 0 0)] _ (.cons _ _ _ _ (.c _ _ (.ptr1 _ _ _ _)) .nil) (.old 16 _ _ _ _ rfl rfl (.vars _ _ (zb rfl)) .nil) rfl (znQ (mu0 g c t) hs ht hco hlm h) ?_
 rintro H r ⟨rfl,rfl⟩ _ _
 refine⟨rfl,.inl rfl,?_⟩
 generalize createM (mu0 g c t)=m'
 show ARet ..
 exact zg rfl ⟨rfl,rfl⟩
theorem zoK (g:Hp) (c:Col) (t:Thread) (a b d:Int) (hs:g.small) (hl:g.light) (hlm:(flats (zec g [t.cache])).length<=zi) (hw:c.work.length<zi) (ht:t.ok) (hco:t.cache.ok) (hm:zg8 g t=true) (h:0<t.ops.length) (hp:0<=t.pc/\t.pc<=4) (hx:(mu0 g c t).op=⟨1,a,b,d⟩):Spec X 116 [] [g.tv,c.tv,t.tv] (Ret [] (zha (loadM (mu0 g c t)))):=by
 refine zGO X_ok Tryz.f116 fun hb hH=>⟨rfl,?_⟩
 show ACall ..
 refine .mk _ (zb1 g c t hs (Nat.le_of_lt hw) ht) fun H r ⟨eH,er⟩ _ _=>⟨.inl rfl,?_⟩
 subst eH er
 show ACall ..
 refine za ((zbV g t hlm).uz) rfl ?_
 rw[hm]
 refine zYE (by decide) ?_
 show ACall ..
 refine za (zcs (mu0 g c t) _ h hx) rfl ?_
 show ABr (bif decide ((1:Int)>=0) then decide ((1:Int)<7) else false) _ _
 refine zYE (by decide) ?_
 show AOb ..
 refine⟨by show(0:Int)<=1/\(1:Int)<7;decide,?_⟩
 show ACall ..
 refine .hand [(_,16)] [(16,.vars (muV (mu0 g c t)))] [.c (.ptr 16 0 0)] _ (.cons _ _ _ _ (.c _ _ (.ptr1 _ _ _ _)) .nil) (.old 16 _ _ _ _ rfl rfl (.vars _ _ (zb rfl)) .nil) rfl (zrR (mu0 g c t) hl ht h) ?_
 rintro H r ⟨rfl,rfl⟩ _ _
 refine⟨rfl,.inl rfl,?_⟩
 generalize loadM (mu0 g c t)=m'
 show ARet ..
 exact zg rfl ⟨rfl,rfl⟩
theorem zqR (g:Hp) (c:Col) (t:Thread) (a b d:Int) (hs:g.small) (hl:g.light) (hlm:(flats (zec g [t.cache])).length<=zi) (hw:c.work.length<zi) (ht:t.ok) (hco:t.cache.ok) (hm:zg8 g t=true) (h:0<t.ops.length) (hp:0<=t.pc/\t.pc<=4) (hx:(mu0 g c t).op=⟨2,a,b,d⟩):Spec X 116 [] [g.tv,c.tv,t.tv] (Ret [] (zha (storeM (mu0 g c t)))):=by
 refine zGO X_ok Tryz.f116 fun hb hH=>⟨rfl,?_⟩
 show ACall ..
 refine .mk _ (zb1 g c t hs (Nat.le_of_lt hw) ht) fun H r ⟨eH,er⟩ _ _=>⟨.inl rfl,?_⟩
 subst eH er
 show ACall ..
 refine za ((zbV g t hlm).uz) rfl ?_
 rw[hm]
 refine zYE (by decide) ?_
 show ACall ..
 refine za (zcs (mu0 g c t) _ h hx) rfl ?_
 show ABr (bif decide ((2:Int)>=0) then decide ((2:Int)<7) else false) _ _
 refine zYE (by decide) ?_
 show AOb ..
 refine⟨by show(0:Int)<=2/\(2:Int)<7;decide,?_⟩
 show ACall ..
 refine .hand [(_,16)] [(16,.vars (muV (mu0 g c t)))] [.c (.ptr 16 0 0)] _ (.cons _ _ _ _ (.c _ _ (.ptr1 _ _ _ _)) .nil) (.old 16 _ _ _ _ rfl rfl (.vars _ _ (zb rfl)) .nil) rfl (zqr (mu0 g c t) hl hs hw h hp) ?_
 rintro H r ⟨rfl,rfl⟩ _ _
 refine⟨rfl,.inl rfl,?_⟩
 generalize storeM (mu0 g c t)=m'
 show ARet ..
 exact zg rfl ⟨rfl,rfl⟩
theorem zqg (g:Hp) (c:Col) (t:Thread) (a b d:Int) (hs:g.small) (hl:g.light) (hlm:(flats (zec g [t.cache])).length<=zi) (hw:c.work.length<zi) (ht:t.ok) (hco:t.cache.ok) (hm:zg8 g t=true) (h:0<t.ops.length) (hp:0<=t.pc/\t.pc<=4) (hx:(mu0 g c t).op=⟨3,a,b,d⟩):Spec X 116 [] [g.tv,c.tv,t.tv] (Ret [] (zha (dropM (mu0 g c t)))):=by
 refine zGO X_ok Tryz.f116 fun hb hH=>⟨rfl,?_⟩
 show ACall ..
 refine .mk _ (zb1 g c t hs (Nat.le_of_lt hw) ht) fun H r ⟨eH,er⟩ _ _=>⟨.inl rfl,?_⟩
 subst eH er
 show ACall ..
 refine za ((zbV g t hlm).uz) rfl ?_
 rw[hm]
 refine zYE (by decide) ?_
 show ACall ..
 refine za (zcs (mu0 g c t) _ h hx) rfl ?_
 show ABr (bif decide ((3:Int)>=0) then decide ((3:Int)<7) else false) _ _
 refine zYE (by decide) ?_
 show AOb ..
 refine⟨by show(0:Int)<=3/\(3:Int)<7;decide,?_⟩
 show ACall ..
 refine .hand [(_,16)] [(16,.vars (muV (mu0 g c t)))] [.c (.ptr 16 0 0)] _ (.cons _ _ _ _ (.c _ _ (.ptr1 _ _ _ _)) .nil) (.old 16 _ _ _ _ rfl rfl (.vars _ _ (zb rfl)) .nil) rfl (zsf (mu0 g c t) ht h) ?_
 rintro H r ⟨rfl,rfl⟩ _ _
 refine⟨rfl,.inl rfl,?_⟩
 generalize dropM (mu0 g c t)=m'
 show ARet ..
 exact zg rfl ⟨rfl,rfl⟩
theorem zoH (g:Hp) (c:Col) (t:Thread) (a b d:Int) (hs:g.small) (hl:g.light) (hlm:(flats (zec g [t.cache])).length<=zi) (hw:c.work.length<zi) (ht:t.ok) (hco:t.cache.ok) (hm:zg8 g t=true) (h:0<t.ops.length) (hp:0<=t.pc/\t.pc<=4) (hx:(mu0 g c t).op=⟨4,a,b,d⟩):Spec X 116 [] [g.tv,c.tv,t.tv] (Ret [] (zha (sameM (mu0 g c t)))):=by
 refine zGO X_ok Tryz.f116 fun hb hH=>⟨rfl,?_⟩
 show ACall ..
 refine .mk _ (zb1 g c t hs (Nat.le_of_lt hw) ht) fun H r ⟨eH,er⟩ _ _=>⟨.inl rfl,?_⟩
 subst eH er
 show ACall ..
 refine za ((zbV g t hlm).uz) rfl ?_
 rw[hm]
 refine zYE (by decide) ?_
 show ACall ..
 refine za (zcs (mu0 g c t) _ h hx) rfl ?_
 show ABr (bif decide ((4:Int)>=0) then decide ((4:Int)<7) else false) _ _
 refine zYE (by decide) ?_
 show AOb ..
 refine⟨by show(0:Int)<=4/\(4:Int)<7;decide,?_⟩
 show ACall ..
 refine .hand [(_,16)] [(16,.vars (muV (mu0 g c t)))] [.c (.ptr 16 0 0)] _ (.cons _ _ _ _ (.c _ _ (.ptr1 _ _ _ _)) .nil) (.old 16 _ _ _ _ rfl rfl (.vars _ _ (zb rfl)) .nil) rfl (zrM (mu0 g c t) h) ?_
 rintro H r ⟨rfl,rfl⟩ _ _
 refine⟨rfl,.inl rfl,?_⟩
 generalize sameM (mu0 g c t)=m'
 show ARet ..
 exact zg rfl ⟨rfl,rfl⟩
theorem zp3 (g:Hp) (c:Col) (t:Thread) (a b d:Int) (hs:g.small) (hl:g.light) (hlm:(flats (zec g [t.cache])).length<=zi) (hw:c.work.length<zi) (ht:t.ok) (hco:t.cache.ok) (hm:zg8 g t=true) (h:0<t.ops.length) (hp:0<=t.pc/\t.pc<=4) (hx:(mu0 g c t).op=⟨5,a,b,d⟩):Spec X 116 [] [g.tv,c.tv,t.tv] (Ret [] (zha (sizeM (mu0 g c t)))):=by
 refine zGO X_ok Tryz.f116 fun hb hH=>⟨rfl,?_⟩
 show ACall ..
 refine .mk _ (zb1 g c t hs (Nat.le_of_lt hw) ht) fun H r ⟨eH,er⟩ _ _=>⟨.inl rfl,?_⟩
 subst eH er
 show ACall ..
 refine za ((zbV g t hlm).uz) rfl ?_
 rw[hm]
 refine zYE (by decide) ?_
 show ACall ..
 refine za (zcs (mu0 g c t) _ h hx) rfl ?_
 show ABr (bif decide ((5:Int)>=0) then decide ((5:Int)<7) else false) _ _
 refine zYE (by decide) ?_
 show AOb ..
 refine⟨by show(0:Int)<=5/\(5:Int)<7;decide,?_⟩
 show ACall ..
 refine .hand [(_,16)] [(16,.vars (muV (mu0 g c t)))] [.c (.ptr 16 0 0)] _ (.cons _ _ _ _ (.c _ _ (.ptr1 _ _ _ _)) .nil) (.old 16 _ _ _ _ rfl rfl (.vars _ _ (zb rfl)) .nil) rfl (zsE (mu0 g c t) hl h) ?_
 rintro H r ⟨rfl,rfl⟩ _ _
 refine⟨rfl,.inl rfl,?_⟩
 generalize sizeM (mu0 g c t)=m'
 show ARet ..
 exact zg rfl ⟨rfl,rfl⟩
theorem zpG (g:Hp) (c:Col) (t:Thread) (a b d:Int) (hs:g.small) (hl:g.light) (hlm:(flats (zec g [t.cache])).length<=zi) (hw:c.work.length<zi) (ht:t.ok) (hco:t.cache.ok) (hm:zg8 g t=true) (h:0<t.ops.length) (hp:0<=t.pc/\t.pc<=4) (hx:(mu0 g c t).op=⟨6,a,b,d⟩):Spec X 116 [] [g.tv,c.tv,t.tv] (Ret [] (zha (exitM (mu0 g c t)))):=by
 refine zGO X_ok Tryz.f116 fun hb hH=>⟨rfl,?_⟩
 show ACall ..
 refine .mk _ (zb1 g c t hs (Nat.le_of_lt hw) ht) fun H r ⟨eH,er⟩ _ _=>⟨.inl rfl,?_⟩
 subst eH er
 show ACall ..
 refine za ((zbV g t hlm).uz) rfl ?_
 rw[hm]
 refine zYE (by decide) ?_
 show ACall ..
 refine za (zcs (mu0 g c t) _ h hx) rfl ?_
 show ABr (bif decide ((6:Int)>=0) then decide ((6:Int)<7) else false) _ _
 refine zYE (by decide) ?_
 show AOb ..
 refine⟨by show(0:Int)<=6/\(6:Int)<7;decide,?_⟩
 show ACall ..
 refine .hand [(_,16)] [(16,.vars (muV (mu0 g c t)))] [.c (.ptr 16 0 0)] _ (.cons _ _ _ _ (.c _ _ (.ptr1 _ _ _ _)) .nil) (.old 16 _ _ _ _ rfl rfl (.vars _ _ (zb rfl)) .nil) rfl (zqX (mu0 g c t) hs hlm h) ?_
 rintro H r ⟨rfl,rfl⟩ _ _
 refine⟨rfl,.inl rfl,?_⟩
 generalize exitM (mu0 g c t)=m'
 show ARet ..
 exact zg rfl ⟨rfl,rfl⟩
theorem zoL (g:Hp) (c:Col) (t:Thread) (hs:g.small) (hl:g.light) (hlm:(flats (zec g [t.cache])).length<=zi) (hw:c.work.length<zi) (ht:t.ok) (hco:t.cache.ok) (hm:zg8 g t=true) (h:0<t.ops.length) (hp:0<=t.pc/\t.pc<=4) (hx:¬(0<=(mu0 g c t).op.kind/\(mu0 g c t).op.kind<=6)):Spec X 116 [] [g.tv,c.tv,t.tv] (Ret [] (zha (endM (mu0 g c t) 1 0))):=by
 refine zGO X_ok Tryz.f116 fun hb hH=>⟨rfl,?_⟩
 show ACall ..
 refine .mk _ (zb1 g c t hs (Nat.le_of_lt hw) ht) fun H r ⟨eH,er⟩ _ _=>⟨.inl rfl,?_⟩
 subst eH er
 show ACall ..
 refine za ((zbV g t hlm).uz) rfl ?_
 rw[hm]
 refine zYE (by decide) ?_
 show ACall ..
 refine za (zbf (mu0 g c t) h) rfl ?_
 show ABr (bif decide ((mu0 g c t).op.kind>=0) then decide ((mu0 g c t).op.kind<7) else false) _ _
 rw[show(bif decide ((mu0 g c t).op.kind>=0) then decide ((mu0 g c t).op.kind<7) else false)=false by
  by_cases h1:(mu0 g c t).op.kind>=0
  ·rw[decide_eq_true h1,decide_eq_false (by omega)];rfl
  ·rw[decide_eq_false h1];rfl]
 refine zNO (by decide) ?_
 show ACall ..
 refine .hand [(_,16)] [(16,.vars (muV (mu0 g c t)))] [.c (.ptr 16 0 0)] _ (.cons _ _ _ _ (.c _ _ (.ptr1 _ _ _ _)) .nil) (.old 16 _ _ _ _ rfl rfl (.vars _ _ (zb rfl)) .nil) rfl (ztw (mu0 g c t) h) ?_
 rintro H r ⟨rfl,rfl⟩ _ _
 refine⟨rfl,.inl rfl,?_⟩
 generalize endM (mu0 g c t) 1 0=m'
 show ARet ..
 exact zg rfl ⟨rfl,rfl⟩
theorem zsx (g:Hp) (c:Col) (t:Thread) (hs:g.small) (hl:g.light) (hlm:(flats (zec g [t.cache])).length<=zi) (hw:c.work.length<zi) (ht:t.ok) (hco:t.cache.ok):Spec X 116 [] [g.tv,c.tv,t.tv] (Ret [] (zha (mutS g c t))):=by
 by_cases hm:zg8 g t=true
 ·have hm':=hm
  unfold zg8 at hm'
  simp only[Bool.and_eq_true,decide_eq_true_eq]at hm'
  obtain⟨hT,_,h,_⟩:=hm'
  have hp:0<=t.pc/\t.pc<=4:=⟨hT.2.2.2.2.1,hT.2.2.2.2.2.1⟩
  have hS:mutS g c t=zdA (mu0 g c t):=by unfold mutS;rw[if_pos hm];rfl
  rw[hS]
  by_cases hk:0<=(mu0 g c t).op.kind/\(mu0 g c t).op.kind<=6
  ·have key:∀i:Int,(mu0 g c t).op.kind=i->(mu0 g c t).op=⟨i,(mu0 g c t).op.a,(mu0 g c t).op.b,(mu0 g c t).op.c⟩:=fun i e=>by rw[←e]
   have e:(mu0 g c t).op.kind=0\/(mu0 g c t).op.kind=1\/(mu0 g c t).op.kind=2\/(mu0 g c t).op.kind=3\/(mu0 g c t).op.kind=4\/(mu0 g c t).op.kind=5\/(mu0 g c t).op.kind=6:=by omega
   unfold zdA
   rcases e with e|e|e|e|e|e|e
   ·rw[e];exact zoR g c t _ _ _ hs hl hlm hw ht hco hm h hp (key _ e)
   ·rw[e];exact zoK g c t _ _ _ hs hl hlm hw ht hco hm h hp (key _ e)
   ·rw[e];exact zqR g c t _ _ _ hs hl hlm hw ht hco hm h hp (key _ e)
   ·rw[e];exact zqg g c t _ _ _ hs hl hlm hw ht hco hm h hp (key _ e)
   ·rw[e];exact zoH g c t _ _ _ hs hl hlm hw ht hco hm h hp (key _ e)
   ·rw[e];exact zp3 g c t _ _ _ hs hl hlm hw ht hco hm h hp (key _ e)
   ·rw[e];exact zpG g c t _ _ _ hs hl hlm hw ht hco hm h hp (key _ e)
  ·unfold zdA
   rw[if_neg (by omega),if_neg (by omega),if_neg (by omega),if_neg (by omega),if_neg (by omega),if_neg (by omega),if_neg (by omega)]
   exact zoL g c t hs hl hlm hw ht hco hm h hp hk
 ·exact zpJ g c t hs hlm hw ht (by simpa using hm)
abbrev rnL (w:Wd):zh:=[(16,.vars (wdO w 17 0)),(17,.data .thread w.t),(18,.dead),(0,.data .res w.log)]
theorem zqZ (w:Wd) (n:Int) (hF:w.Fit):Spec X 74 (rnH w) [.c (.ptr 16 0 0),.int n] (fun H r=>(H=rnH (stepW w n)\/H=rnL (stepW w n))/\r = .int (zcm w n)):=by
 refine zGO X_ok Tryz.f74 fun hb hH=>⟨rfl,?_⟩
 have hg:=hF.light
 have h1':=fun(t:Thread) (ht:t∈w.t)=>hF.one ht
 obtain⟨hs,hw,hl,hth,hfl,hlog⟩:=hF
 show ACall ..
 refine za (zqT w n) rfl ?_
 cases hi:zeb w n with
 |false=>
  have e1:stepW w n=w:=by unfold stepW;rw[if_pos hi]
  have e2:zcm w n=3:=by unfold zcm;rw[if_pos hi]
  rw[e1,e2]
  refine zYE (by decide) ?_
  show ARet ..
  exact⟨[(16,16),(17,17),(18,18)],rnH (w),[.int (3)],.cons _ _ _ _ .same .nil,.old 16 16 _ _ _ rfl rfl (.vars _ _ (by repeat (first|exact .nil|refine .cons _ _ _ _ (.d _) ?_|refine .cons _ _ _ _ (.own _ _ rfl) ?_))) (.old 17 17 _ _ _ rfl rfl (.data_eq rfl) (.old 18 18 _ _ _ rfl rfl (.data_eq rfl) .nil)),rfl,.inl rfl,rfl⟩
 |true=>
  have hr:0<=n/\n<(w.t.length:Int):=of_decide_eq_true hi
  have hlt:n.toNat<w.t.length:=by omega
  refine zNO (by decide) ?_
  show AOb ..
  refine⟨by exact hr,?_⟩
  show AOb ..
  refine⟨by exact hlt,?_⟩
  show ADCall ..
  refine .mk _ _ (zkC w.c (thW w n)) rfl ?_
  show AOb ..
  refine⟨by exact hlt,?_⟩
  cases hlv:(thW w n).live with
  |false=>
   have e0:zdv w n=true:=by unfold zdv;rw[hlv];rfl
   have e1:stepW w n=w:=by unfold stepW;rw[if_neg (by rw[hi];decide),if_pos e0]
   have e2:zcm w n=3:=by unfold zcm;rw[if_neg (by rw[hi];decide),if_pos e0]
   rw[e1,e2]
   show ABr (!(thW w n).live) _ _
   rw[hlv]
   refine zYE (by decide) ?_
   show ABr (!(thW w n).live) _ _
   rw[hlv]
   refine zYE (by decide) ?_
   show ARet ..
   exact⟨[(16,16),(17,17),(18,18)],rnH (w),[.int (3)],.cons _ _ _ _ .same .nil,.old 16 16 _ _ _ rfl rfl (.vars _ _ (by repeat (first|exact .nil|refine .cons _ _ _ _ (.d _) ?_|refine .cons _ _ _ _ (.own _ _ rfl) ?_))) (.old 17 17 _ _ _ rfl rfl (.data_eq rfl) (.old 18 18 _ _ _ rfl rfl (.data_eq rfl) .nil)),rfl,.inl rfl,rfl⟩
  |true=>
   show ABr (!(thW w n).live) _ _
   rw[hlv]
   refine zNO (by decide) ?_
   show AOb ..
   refine⟨by exact fun _=>hlt,?_⟩
   show ABr (bif !zaz w.c (thW w n) then (((thW w n).ops.length:Int)==0) else false) _ _
   cases ha:zaz w.c (thW w n) with
   |true=>
    have e0:zdv w n=false:=by unfold zdv;rw[hlv,ha];rfl
    have e1:stepW w n=⟨ansG w.h w.c (thW w n),ansC w.h w.c (thW w n),w.t.set n.toNat (ansT w.c (thW w n)),w.log⟩:=by unfold stepW;rw[if_neg (by rw[hi];decide),if_neg (by rw[e0];decide),if_pos ha]
    have e2:zcm w n=0:=by unfold zcm;rw[if_neg (by rw[hi];decide),if_neg (by rw[e0];decide)]
    rw[e1,e2]
    show ABr false _ _
    refine zNO (by decide) ?_
    refine zYE (by decide) ?_
    show AOb ..
    refine⟨by exact hlt,?_⟩
    show ADCall ..
    refine .mk _ _ (zp1 w.h w.c (thW w n) hg hs hw (hth _ (zbZ hi)).1) rfl ?_
    generalize ansG w.h w.c (thW w n)=g'
    generalize ansC w.h w.c (thW w n)=c'
    generalize ansT w.c (thW w n)=u
    show AOb ..
    refine⟨by exact hlt,?_⟩
    show ARet ..
    exact⟨[(16,16),(17,17),(18,18)],rnH ((⟨g',c',w.t.set n.toNat u,w.log⟩:Wd)),[.int (0)],.cons _ _ _ _ .same .nil,.old 16 16 _ _ _ rfl rfl (.vars _ _ (by repeat (first|exact .nil|refine .cons _ _ _ _ (.d _) ?_|refine .cons _ _ _ _ (.own _ _ rfl) ?_))) (.old 17 17 _ _ _ rfl rfl (.data_eq rfl) (.old 18 18 _ _ _ rfl rfl (.data_eq rfl) .nil)),rfl,.inl rfl,rfl⟩
   |false=>
    by_cases ho:(thW w n).ops.length=0
    ·have e0:zdv w n=true:=by unfold zdv;rw[hlv,ha,decide_eq_true ho];rfl
     have e1:stepW w n=w:=by unfold stepW;rw[if_neg (by rw[hi];decide),if_pos e0]
     have e2:zcm w n=3:=by unfold zcm;rw[if_neg (by rw[hi];decide),if_pos e0]
     rw[e1,e2,show(((thW w n).ops.length:Int)==0)=true by rw[ho];rfl]
     refine zYE (by decide) ?_
     show ARet ..
     exact⟨[(16,16),(17,17),(18,18)],rnH (w),[.int (3)],.cons _ _ _ _ .same .nil,.old 16 16 _ _ _ rfl rfl (.vars _ _ (by repeat (first|exact .nil|refine .cons _ _ _ _ (.d _) ?_|refine .cons _ _ _ _ (.own _ _ rfl) ?_))) (.old 17 17 _ _ _ rfl rfl (.data_eq rfl) (.old 18 18 _ _ _ rfl rfl (.data_eq rfl) .nil)),rfl,.inl rfl,rfl⟩
    ·have e0:zdv w n=false:=by unfold zdv;rw[hlv,ha,decide_eq_false ho];rfl
     have e1:stepW w n=⟨(mutS w.h w.c (thW w n)).h,(mutS w.h w.c (thW w n)).c,w.t.set n.toNat (mutS w.h w.c (thW w n)).t,zqW w n (mutS w.h w.c (thW w n))⟩:=by unfold stepW;rw[if_neg (by rw[hi];decide),if_neg (by rw[e0];decide),if_neg (by rw[ha];decide)]
     have e2:zcm w n=0:=by unfold zcm;rw[if_neg (by rw[hi];decide),if_neg (by rw[e0];decide)]
     rw[e1,e2,show(((thW w n).ops.length:Int)==0)=false by rw[beq_eq_false_iff_ne];omega]
     refine zNO (by decide) ?_
     refine zNO (by decide) ?_
     show AOb ..
     refine⟨by exact hlt,?_⟩
     show ADCall ..
     refine .mk _ _ (zsx w.h w.c (thW w n) hs hg (h1' _ (zbZ hi)) hw (hth _ (zbZ hi)).1 (hth _ (zbZ hi)).2) rfl ?_
     generalize mutS w.h w.c (thW w n)=m
     show AOb ..
     refine⟨by exact hlt,?_⟩
     show ABr m.told _ _
     cases hm:m.told with
     |false=>
      have e3:zqW w n m=w.log:=by unfold zqW;rw[hm];rfl
      rw[e3]
      refine zNO (by decide) ?_
      show ARet ..
      exact⟨[(16,16),(17,17),(18,18)],rnH ((⟨m.h,m.c,w.t.set n.toNat m.t,w.log⟩:Wd)),[.int (0)],.cons _ _ _ _ .same .nil,.old 16 16 _ _ _ rfl rfl (.vars _ _ (by repeat (first|exact .nil|refine .cons _ _ _ _ (.d _) ?_|refine .cons _ _ _ _ (.own _ _ rfl) ?_))) (.old 17 17 _ _ _ rfl rfl (.data_eq rfl) (.old 18 18 _ _ _ rfl rfl (.data_eq rfl) .nil)),rfl,.inl rfl,rfl⟩
     |true=>
      have e3:zqW w n m=w.log++[{m.r with thread:=n}]:=by unfold zqW;rw[hm];rfl
      rw[e3]
      refine zYE (by decide) ?_
      show AOb (w.log.length+1<=zi) _
      refine⟨hlog,?_⟩
      show ARet ..
      exact⟨[(16,16),(17,17),(18,18),(3200,0)],rnL ((⟨m.h,m.c,w.t.set n.toNat m.t,w.log++[{m.r with thread:=n}]⟩:Wd)),[.int (0)],.cons _ _ _ _ .same .nil,.old 16 16 _ _ _ rfl rfl (.vars _ _ (by repeat (first|exact .nil|refine .cons _ _ _ _ (.d _) ?_|refine .cons _ _ _ _ (.own _ _ rfl) ?_))) (.old 17 17 _ _ _ rfl rfl (.data_eq rfl) (.old 18 18 _ _ _ rfl rfl .dead (.old 0 3200 _ _ _ rfl rfl (.data_eq rfl) .nil))),rfl,.inr rfl,rfl⟩
theorem zuA (w:Wd) (n:Int) (hF:w.Fit):Spec X 37 (rnH w) [.c (.ptr 16 0 0),.dagg (EK.enc .pair ⟨0,n⟩)] (fun H r=>(H=rnH (stepW w n)\/H=rnL (stepW w n))/\r = .int (zcm w n)):=by
 refine zGO X_ok Tryz.f37 fun hb hH=>⟨rfl,?_⟩
 refine zNO (by decide) ?_
 show ACall ..
 refine .hand [(16,16),(17,17),(18,18)] (rnH w) [.c (.ptr 16 0 0),.int n] _ (.cons _ _ _ _ (.c _ _ (.ptr _ _ _ _ rfl)) (.cons _ _ _ _ .same .nil)) (.old 16 16 _ _ _ rfl rfl (.vars _ _ (by repeat (first|exact .nil|refine .cons _ _ _ _ (.d _) ?_|refine .cons _ _ _ _ (.own _ _ rfl) ?_))) (.old 17 17 _ _ _ rfl rfl (.data_eq rfl) (.old 18 18 _ _ _ rfl rfl (.data_eq rfl) .nil))) rfl (zqZ w n hF) ?_
 rintro H r ⟨hH|hH,rfl⟩ _ _
 ·subst hH
  refine⟨rfl,.inl rfl,?_⟩
  generalize stepW w n=w'
  show ARet ..
  exact⟨[(16,16),(17,17),(18,18)],rnH (w'),[.int (zcm w n)],.cons _ _ _ _ .same .nil,.old 16 16 _ _ _ rfl rfl (.vars _ _ (by repeat (first|exact .nil|refine .cons _ _ _ _ (.d _) ?_|refine .cons _ _ _ _ (.own _ _ rfl) ?_))) (.old 17 17 _ _ _ rfl rfl (.data_eq rfl) (.old 18 18 _ _ _ rfl rfl (.data_eq rfl) .nil)),rfl,.inl rfl,rfl⟩
 ·subst hH
  refine⟨rfl,.inl rfl,?_⟩
  generalize stepW w n=w'
  show ARet ..
  exact⟨[(16,16),(17,17),(18,18),(1120,0)],rnL w',[.int (zcm w n)],.cons _ _ _ _ .same .nil,.old 16 16 _ _ _ rfl rfl (.vars _ _ (by repeat (first|exact .nil|refine .cons _ _ _ _ (.d _) ?_|refine .cons _ _ _ _ (.own _ _ rfl) ?_))) (.old 17 17 _ _ _ rfl rfl (.data_eq rfl) (.old 18 18 _ _ _ rfl rfl .dead (.old 0 1120 _ _ _ rfl rfl (.data_eq rfl) .nil))),rfl,.inr rfl,rfl⟩
theorem zup (w:Wd) (n:Int) (hF:w.Fit):Spec X 37 (rnH w) [.c (.ptr 16 0 0),.dagg (EK.enc .pair ⟨1,n⟩)] (fun H r=>H=rnF (colW w)/\r = .int 0):=by
 refine zGO X_ok Tryz.f37 fun hb hH=>⟨rfl,?_⟩
 refine zNO (by decide) ?_
 show ACall ..
 refine .hand [(16,16),(17,17),(18,18)] (rnH w) [.c (.ptr 16 0 0),.int n] _ (.cons _ _ _ _ (.c _ _ (.ptr _ _ _ _ rfl)) (.cons _ _ _ _ .same .nil)) (.old 16 16 _ _ _ rfl rfl (.vars _ _ (by repeat (first|exact .nil|refine .cons _ _ _ _ (.d _) ?_|refine .cons _ _ _ _ (.own _ _ rfl) ?_))) (.old 17 17 _ _ _ rfl rfl (.data_eq rfl) (.old 18 18 _ _ _ rfl rfl (.data_eq rfl) .nil))) rfl (zuf w n hF) ?_
 rintro H r ⟨rfl,rfl⟩ _ _
 refine⟨rfl,.inl rfl,?_⟩
 generalize colW w=w'
 show ARet ..
 exact⟨[(16,16),(17,17),(18,18)],rnF (w'),[.int (0)],.cons _ _ _ _ .same .nil,.old 16 16 _ _ _ rfl rfl (.vars _ _ (by repeat (first|exact .nil|refine .cons _ _ _ _ (.d _) ?_|refine .cons _ _ _ _ (.own _ _ rfl) ?_))) (.old 17 17 _ _ _ rfl rfl .dead (.old 18 18 _ _ _ rfl rfl (.data_eq rfl) .nil)),rfl,rfl,rfl⟩
theorem zuz (w:Wd) (n:Int):Spec X 37 (rnH w) [.c (.ptr 16 0 0),.dagg (EK.enc .pair ⟨2,n⟩)] (fun H r=>H=rnH (startW w false)/\r = .int (zaw w.c)):=by
 refine zGO X_ok Tryz.f37 fun hb hH=>⟨rfl,?_⟩
 refine zNO (by decide) ?_
 show ACall ..
 refine .hand [(16,16),(17,17),(18,18)] (rnH w) [.c (.ptr 16 0 0),.int n] _ (.cons _ _ _ _ (.c _ _ (.ptr _ _ _ _ rfl)) (.cons _ _ _ _ .same .nil)) (.old 16 16 _ _ _ rfl rfl (.vars _ _ (by repeat (first|exact .nil|refine .cons _ _ _ _ (.d _) ?_|refine .cons _ _ _ _ (.own _ _ rfl) ?_))) (.old 17 17 _ _ _ rfl rfl (.data_eq rfl) (.old 18 18 _ _ _ rfl rfl (.data_eq rfl) .nil))) rfl (zo0 w n) ?_
 rintro H r ⟨rfl,rfl⟩ _ _
 refine⟨rfl,.inl rfl,?_⟩
 generalize startW w false=w'
 show ARet ..
 exact⟨[(16,16),(17,17),(18,18)],rnH (w'),[.int (zaw w.c)],.cons _ _ _ _ .same .nil,.old 16 16 _ _ _ rfl rfl (.vars _ _ (by repeat (first|exact .nil|refine .cons _ _ _ _ (.d _) ?_|refine .cons _ _ _ _ (.own _ _ rfl) ?_))) (.old 17 17 _ _ _ rfl rfl (.data_eq rfl) (.old 18 18 _ _ _ rfl rfl (.data_eq rfl) .nil)),rfl,rfl,rfl⟩
theorem zuh (w:Wd) (n:Int):Spec X 37 (rnH w) [.c (.ptr 16 0 0),.dagg (EK.enc .pair ⟨3,n⟩)] (fun H r=>H=rnH (startW w true)/\r = .int (zaw w.c)):=by
 refine zGO X_ok Tryz.f37 fun hb hH=>⟨rfl,?_⟩
 refine zNO (by decide) ?_
 show ACall ..
 refine .hand [(16,16),(17,17),(18,18)] (rnH w) [.c (.ptr 16 0 0),.int n] _ (.cons _ _ _ _ (.c _ _ (.ptr _ _ _ _ rfl)) (.cons _ _ _ _ .same .nil)) (.old 16 16 _ _ _ rfl rfl (.vars _ _ (by repeat (first|exact .nil|refine .cons _ _ _ _ (.d _) ?_|refine .cons _ _ _ _ (.own _ _ rfl) ?_))) (.old 17 17 _ _ _ rfl rfl (.data_eq rfl) (.old 18 18 _ _ _ rfl rfl (.data_eq rfl) .nil))) rfl (zpB w n) ?_
 rintro H r ⟨rfl,rfl⟩ _ _
 refine⟨rfl,.inl rfl,?_⟩
 generalize startW w true=w'
 show ARet ..
 exact⟨[(16,16),(17,17),(18,18)],rnH (w'),[.int (zaw w.c)],.cons _ _ _ _ .same .nil,.old 16 16 _ _ _ rfl rfl (.vars _ _ (by repeat (first|exact .nil|refine .cons _ _ _ _ (.d _) ?_|refine .cons _ _ _ _ (.own _ _ rfl) ?_))) (.old 17 17 _ _ _ rfl rfl (.data_eq rfl) (.old 18 18 _ _ _ rfl rfl (.data_eq rfl) .nil)),rfl,rfl,rfl⟩
theorem ztz (w:Wd) (n:Int) (hF:w.Fit):Spec X 37 (rnH w) [.c (.ptr 16 0 0),.dagg (EK.enc .pair ⟨4,n⟩)] (fun H r=>H=rnH (beginW w n)/\r = .int (beginWE w n)):=by
 refine zGO X_ok Tryz.f37 fun hb hH=>⟨rfl,?_⟩
 refine zNO (by decide) ?_
 show ACall ..
 refine .hand [(16,16),(17,17),(18,18)] (rnH w) [.c (.ptr 16 0 0),.int n] _ (.cons _ _ _ _ (.c _ _ (.ptr _ _ _ _ rfl)) (.cons _ _ _ _ .same .nil)) (.old 16 16 _ _ _ rfl rfl (.vars _ _ (by repeat (first|exact .nil|refine .cons _ _ _ _ (.d _) ?_|refine .cons _ _ _ _ (.own _ _ rfl) ?_))) (.old 17 17 _ _ _ rfl rfl (.data_eq rfl) (.old 18 18 _ _ _ rfl rfl (.data_eq rfl) .nil))) rfl (zox w n hF) ?_
 rintro H r ⟨rfl,rfl⟩ _ _
 refine⟨rfl,.inl rfl,?_⟩
 generalize beginW w n=w'
 generalize beginWE w n=e'
 show ARet ..
 exact⟨[(16,16),(17,17),(18,18)],rnH (w'),[.int (e')],.cons _ _ _ _ .same .nil,.old 16 16 _ _ _ rfl rfl (.vars _ _ (by repeat (first|exact .nil|refine .cons _ _ _ _ (.d _) ?_|refine .cons _ _ _ _ (.own _ _ rfl) ?_))) (.old 17 17 _ _ _ rfl rfl (.data_eq rfl) (.old 18 18 _ _ _ rfl rfl (.data_eq rfl) .nil)),rfl,rfl,rfl⟩
theorem ztH (w:Wd) (k:Nat) (n:Int):Spec X 37 (rnH w) [.c (.ptr 16 0 0),.dagg (EK.enc .pair ⟨Int.ofNat (k+5),n⟩)] (fun H r=>H=rnH w/\r = .int 1):=by
 refine zGO X_ok Tryz.f37 fun hb hH=>⟨rfl,?_⟩
 refine zYE (by decide) ?_
 show ARet ..
 exact⟨[(16,16),(17,17),(18,18)],rnH (w),[.int (1)],.cons _ _ _ _ .same .nil,.old 16 16 _ _ _ rfl rfl (.vars _ _ (by repeat (first|exact .nil|refine .cons _ _ _ _ (.d _) ?_|refine .cons _ _ _ _ (.own _ _ rfl) ?_))) (.old 17 17 _ _ _ rfl rfl (.data_eq rfl) (.old 18 18 _ _ _ rfl rfl (.data_eq rfl) .nil)),rfl,rfl,rfl⟩
theorem zua (w:Wd) (k:Nat) (n:Int):Spec X 37 (rnH w) [.c (.ptr 16 0 0),.dagg (EK.enc .pair ⟨Int.negSucc k,n⟩)] (fun H r=>H=rnH w/\r = .int 1):=by
 refine zGO X_ok Tryz.f37 fun hb hH=>⟨rfl,?_⟩
 refine zYE (by decide) ?_
 show ARet ..
 exact⟨[(16,16),(17,17),(18,18)],rnH (w),[.int (1)],.cons _ _ _ _ .same .nil,.old 16 16 _ _ _ rfl rfl (.vars _ _ (by repeat (first|exact .nil|refine .cons _ _ _ _ (.d _) ?_|refine .cons _ _ _ _ (.own _ _ rfl) ?_))) (.old 17 17 _ _ _ rfl rfl (.data_eq rfl) (.old 18 18 _ _ _ rfl rfl (.data_eq rfl) .nil)),rfl,rfl,rfl⟩
theorem zvK (w:Wd) (e:Pair) (hF:w.Fit):Spec X 37 (rnH w) [.c (.ptr 16 0 0),.dagg (EK.enc .pair e)] (fun H r=>(H=rnH (doW1 w e)\/H=rnF (doW1 w e)\/H=rnL (doW1 w e))/\r = .int (doE1 w e)):=by
 obtain⟨k,n⟩:=e
 by_cases h0:k=0
 ·subst h0
  exact Spec.weaken (zuA w n hF) fun H r ⟨h,h'⟩=>⟨h.elim .inl fun h=>.inr (.inr h),h'⟩
 ·by_cases h1:k=1
  ·subst h1
   exact Spec.weaken (zup w n hF) fun H r ⟨h,h'⟩=>⟨.inr (.inl h),h'⟩
  ·by_cases h2:k=2
   ·subst h2
    exact Spec.weaken (zuz w n) fun H r ⟨h,h'⟩=>⟨.inl h,h'⟩
   ·by_cases h3:k=3
    ·subst h3
     exact Spec.weaken (zuh w n) fun H r ⟨h,h'⟩=>⟨.inl h,h'⟩
    ·by_cases h4:k=4
     ·subst h4
      exact Spec.weaken (ztz w n hF) fun H r ⟨h,h'⟩=>⟨.inl h,h'⟩
     ·have e1:doW1 w ⟨k,n⟩=w:=by unfold doW1;rw[if_neg h0,if_neg h1,if_neg h2,if_neg h3,if_neg h4]
      have e2:doE1 w ⟨k,n⟩=1:=by unfold doE1;rw[if_neg h0,if_neg h1,if_neg h2,if_neg h3,if_neg h4]
      rw[e1,e2]
      cases k with
      |negSucc k=>exact Spec.weaken (zua w k n) fun H r ⟨h,h'⟩=>⟨.inl h,h'⟩
      |ofNat k=>
       obtain⟨j,rfl⟩:∃j,k=j+5:=⟨k-5,by
        have a0:k≠0:=fun h=>h0 (by rw[h];rfl)
        have a1:k≠1:=fun h=>h1 (by rw[h];rfl)
        have a2:k≠2:=fun h=>h2 (by rw[h];rfl)
        have a3:k≠3:=fun h=>h3 (by rw[h];rfl)
        have a4:k≠4:=fun h=>h4 (by rw[h];rfl)
        omega⟩
       exact Spec.weaken (ztH w j n) fun H r ⟨h,h'⟩=>⟨.inl h,h'⟩
theorem zdQ (w:Wd) (e:Pair) (hF:w.Fit):Spec X 18 [] [w.tv,.dagg (EK.enc .pair e)] (Ret [] (.tup [(doW w e).tv,.int (doWE w e)])):=by
 refine zGO X_ok Tryz.f18 fun hb hH=>⟨rfl,?_⟩
 show ACall ..
 refine .mk _ (zmZ w hF) fun H r ⟨eH,er⟩ _ _=>⟨.inl rfl,?_⟩
 subst eH er
 show ACall ..
 refine za (zmo w (fun t ht=>(hF.th t ht).1) (fun _=>hF.flat)) rfl ?_
 unfold doW doWE
 cases hm:zaP w with
 |false=>
  refine zYE (by decide) ?_
  show ARet ..
  refine⟨[],[],[(w).tv,.int (1)],.cons _ _ _ _ (.agg _ _ ?_) (.cons _ _ _ _ .same .nil),.nil,rfl,rfl,rfl⟩
  repeat (first|exact .nil|refine .cons _ _ _ _ (.d _) ?_|refine .cons _ _ _ _ (.frz _ _ rfl) ?_)
 |true=>
  rw[if_pos rfl,if_pos rfl]
  refine zNO (by decide) ?_
  show ACall ..
  refine .hand [(256,16),(192,17),(193,18)] (rnH w) [.c (.ptr 16 0 0),.dagg (EK.enc .pair e)] _ (.cons _ _ _ _ (.c _ _ (.ptr _ _ _ _ rfl)) (.cons _ _ _ _ (.agg _ _ (zb rfl)) .nil)) (.old 16 256 _ _ _ rfl rfl (.vars _ _ (by repeat (first|exact .nil|refine .cons _ _ _ _ (.d _) ?_|refine .cons _ _ _ _ (.own _ _ rfl) ?_))) (.old 17 192 _ _ _ rfl rfl (.data_eq rfl) (.old 18 193 _ _ _ rfl rfl (.data_eq rfl) .nil))) rfl (zvK w e hF) ?_
  rintro H r ⟨hH|hH|hH,rfl⟩ _ _
  ·subst hH
   refine⟨rfl,.inl rfl,?_⟩
   generalize doW1 w e=w'
   generalize doE1 w e=e'
   show ARet ..
   refine⟨[],[],[(w').tv,.int (e')],.cons _ _ _ _ (.agg _ _ ?_) (.cons _ _ _ _ .same .nil),.nil,rfl,rfl,rfl⟩
   repeat (first|exact .nil|refine .cons _ _ _ _ (.d _) ?_|refine .cons _ _ _ _ (.frz _ _ rfl) ?_)
  ·subst hH
   refine⟨rfl,.inl rfl,?_⟩
   generalize doW1 w e=w'
   generalize doE1 w e=e'
   show ARet ..
   refine⟨[],[],[(w').tv,.int (e')],.cons _ _ _ _ (.agg _ _ ?_) (.cons _ _ _ _ .same .nil),.nil,rfl,rfl,rfl⟩
   repeat (first|exact .nil|refine .cons _ _ _ _ (.d _) ?_|refine .cons _ _ _ _ (.frz _ _ rfl) ?_)
  ·subst hH
   refine⟨rfl,.inl rfl,?_⟩
   generalize doW1 w e=w'
   generalize doE1 w e=e'
   show ARet ..
   refine⟨[],[],[(w').tv,.int (e')],.cons _ _ _ _ (.agg _ _ ?_) (.cons _ _ _ _ .same .nil),.nil,rfl,rfl,rfl⟩
   repeat (first|exact .nil|refine .cons _ _ _ _ (.d _) ?_|refine .cons _ _ _ _ (.frz _ _ rfl) ?_)
def ztS (l:List (List Op)) (x:List Op):Bool:=decide (4<l.length\/200<x.length)
abbrev thO (o:List Op):Thread:={Thread.zero with ops:=o}
theorem zmB (n:Int) (l:List (List Op)):Spec X 17 [] [.int n,.c (.d (.sl .opss l))] (Ret [] (.tup [(madeW n l).tv,.int (zeI n l)])):=by
 refine zGO X_ok Tryz.f17 fun hb hH=>⟨rfl,?_⟩
 have hll:l.length<=zA:=(hb (.c (.d (.sl .opss l))) (by simp)).1
 unfold zA at hll
 show ACall ..
 refine za (ztM n) rfl ?_
 show ABr (newE n != 0) _ _
 unfold madeW zeI
 by_cases he:newE n≠0
 ·rw[if_pos he,if_pos he,show(newE n != 0)=true by simpa using he]
  refine zYE (by decide) ?_
  generalize newE n=e'
  show ARet ..
  refine⟨[],[],[(Wd.zero).tv,.int (e')],.cons _ _ _ _ (.agg _ _ ?_) (.cons _ _ _ _ .same .nil),.nil,rfl,rfl,rfl⟩
  repeat (first|exact .nil|refine .cons _ _ _ _ (.d _) ?_|refine .cons _ _ _ _ (.nilsl _) ?_|refine .cons _ _ _ _ (.frz _ _ rfl) ?_)
 ·rw[if_neg he,if_neg he,show(newE n != 0)=false by simpa using he]
  refine zNO (by decide) ?_
  generalize newH n=g
  obtain⟨B,hB⟩:∃B,B=l.any (ztS l):=⟨_,rfl⟩
  rw[show(l.any fun x=>decide (4<l.length\/200<x.length))=B from hB.symm]
  show ∃n,_
  refine⟨0,ALoop.inv (ι:={i:Nat // i<=l.length/\∀j,j<i->ztS l (l.getD j default)=false}) (fun q=>⟨[(1,(.c (.d (.sl .opss l)))),(4,.c (.ptr 0 0 0)),(8,.c (.ptr 1 0 0)),(22,(.c (.d (.sl .opss l)))),(23,.int ((l.length:Int))),(24,.int (q.1))],[(0,.vars (List.replicate 18 .any)),(1,.vars ((g.enc++Wd.zero.c.enc).map CV.d++[.own 2,.d (.sl .res [])])),(2,.data .thread ((l.take q.1).map thO))],128⟩) (fun q=>l.length-q.1) ⟨0,Nat.zero_le _,fun j hj=>absurd hj (Nat.not_lt_zero j)⟩ ?_ ?_⟩
  ·exact⟨[(32,0),(480,1)],(by repeat' first|exact .nil|refine .cons _ _ _ ?_ ?_|exact .c _ _ (.ptr _ _ _ _ rfl)|exact .same|exact .c _ _ (.own _ _ rfl)|exact .c _ _ (.ptr _ _ _ _ rfl)|exact .c _ _ (.frz _ _ rfl)|exact .any _),(by exact .old 0 32 _ _ _ rfl rfl (.vars _ _ (by repeat (first|exact .nil|refine .cons _ _ _ _ (.any _) ?_))) (.old 1 480 _ _ _ rfl rfl (.vars _ _ (by repeat (first|exact .nil|refine .cons _ _ _ _ (.d _) ?_|refine .cons _ _ _ _ (.nilown _ .thread rfl rfl) ?_|refine .cons _ _ _ _ (.nilsl _) ?_))) (.new 2 .thread _ rfl .nil))),(by rfl)⟩
  rintro⟨i,hi,hg⟩
  show ABr (decide ((i:Int)<(l.length:Int))) _ _
  refine⟨fun h=>?_,fun h=>?_⟩
  ·have hlt:i<l.length:=by simpa using h
   have wi:IntKind.i64.wrap ((i:Int)+1)=((i+1:Nat):Int):=zP (i:=i) (by unfold zA;omega)
   show AOb ..
   refine⟨by exact⟨Int.natCast_nonneg _,Int.ofNat_lt.2 hlt⟩,?_⟩
   show ABr (bif decide ((l.length:Int)>4) then true else decide (((l.getD i default).length:Int)>200)) _ _
   have hbb:(bif decide ((l.length:Int)>4) then true else decide (((l.getD i default).length:Int)>200))=ztS l (l.getD i default):=by
    unfold ztS
    by_cases h4:4<l.length
    ·rw[decide_eq_true (show(l.length:Int)>4 by omega),decide_eq_true (show 4<l.length\/200<(l.getD i default).length from .inl h4)];rfl
    ·rw[decide_eq_false (show ¬(l.length:Int)>4 by omega)]
     show decide _=decide _
     rw[decide_eq_decide]
     omega
   rw[hbb]
   cases hx:ztS l (l.getD i default) with
   |true=>
    have hBt:B=true:=by rw[hB];exact List.any_eq_true.2 ⟨_,zcg hlt,hx⟩
    rw[if_pos hBt,if_pos hBt]
    refine zYE (by decide) ?_
    show ARet ..
    refine⟨[],[],[(Wd.zero).tv,.int (2)],.cons _ _ _ _ (.agg _ _ ?_) (.cons _ _ _ _ .same .nil),.nil,rfl,rfl,rfl⟩
    repeat (first|exact .nil|refine .cons _ _ _ _ (.d _) ?_|refine .cons _ _ _ _ (.nilsl _) ?_|refine .cons _ _ _ _ (.frz _ _ rfl) ?_)
   |false=>
    have hx':=of_decide_eq_false hx
    refine zNO (by decide) ?_
    show ADCall ..
    refine .mk _ _ (zcb (l.getD i default) (by unfold zi;omega)) rfl ?_
    show AOb (((l.take i).map thO).length+1<=zi) _
    refine⟨by rw[List.length_map,List.length_take];unfold zi;omega,?_⟩
    have hnext:∀j,j<i+1->ztS l (l.getD j default)=false:=fun j hj=>by
     rcases Nat.lt_succ_iff_lt_or_eq.1 hj with h' | rfl
     ·exact hg j h'
     ·exact hx
    show ARound ..
    exact⟨⟨i+1,hlt,hnext⟩,(by dsimp only;omega),[(0,0),(1,1),(704,2)],(by repeat' first|exact .nil|refine .cons _ _ _ ?_ ?_|exact .c _ _ (.ptr _ _ _ _ rfl)|exact .int_eq wi|exact .same|exact .c _ _ (.own _ _ rfl)|exact .c _ _ (.ptr _ _ _ _ rfl)|exact .c _ _ (.frz _ _ rfl)|exact .any _),(by exact .old 0 0 _ _ _ rfl rfl (.vars _ _ (by repeat (first|exact .nil|refine .cons _ _ _ _ (.any _) ?_))) (.old 1 1 _ _ _ rfl rfl (.vars _ _ (by repeat (first|exact .nil|refine .cons _ _ _ _ (.d _) ?_|refine .cons _ _ _ _ (.own _ _ rfl) ?_))) (.old 2 704 _ _ _ rfl rfl (.data_eq (zlS thO hlt).symm) .nil))),(by rfl)⟩
  ·have hie:i=l.length:=by simp at h;omega
   have hBf:B=false:=by
    rw[hB,List.any_eq_false]
    intro x hx
    obtain⟨j,hj,e⟩:=List.mem_iff_getElem.1 hx
    have:=hg j (by omega)
    rw[show l.getD j default=x from by rw[List.getD_eq_getElem?_getD,List.getElem?_eq_getElem hj,e];rfl]at this
    rw[this]
    decide
   rw[if_neg (by rw[hBf];decide),if_neg (by rw[hBf];decide)]
   have hm:l.map thO=(l.take i).map thO:=by rw[hie,List.take_length]
   rw[hm]
   show ARet ..
   refine⟨[],[],[((⟨g,Wd.zero.c,(l.take i).map thO,[]⟩:Wd)).tv,.int (0)],.cons _ _ _ _ (.agg _ _ ?_) (.cons _ _ _ _ .same .nil),.nil,rfl,rfl,rfl⟩
   repeat (first|exact .nil|refine .cons _ _ _ _ (.d _) ?_|refine .cons _ _ _ _ (.nilsl _) ?_|refine .cons _ _ _ _ (.frz _ _ rfl) ?_)
end Go.Abs
