/- Walks and plain laws: WAlloc, WTake, WFlush, WRef07, WRef12, WRegsObject, WPuts, WRegsTells, WSame07, WShadeK, WNext. -/
import Derived.Test.YtlankjlnnimdoaaGreatDoorPd
import Derived.Test.YtlankjlnnimdoaaGreatDoorPc
import Derived.Test.YtlankjlnnimdoaaGreatDoorAbsBase1
import Derived.Test.YtlankjlnnimdoaaGreatDoorPa
set_option linter.all false
namespace Go.Abs
open Go.Proofs Go.Proofs.YtlankjlnnimdoaaGreatDoor
set_option maxRecDepth 8000
theorem zwp (l:List Page) (i:Nat) (hm:zar l=true) (hi:i<l.length):Spec X 267 [] [.c (.d (.sl .page l)),.int (i:Int)] (Ret [(0,.data .int (startsOn l i))] (.c (.own 0))):=by
 refine zGO X_ok Tryz.f267 fun hb hH=>⟨rfl,?_⟩
 have hmp:=zab hm
 have hcnd:(bif decide ((i:Int)<0) then true else decide ((i:Int)>=(l.length:Int)))=false:=by
  rw[decide_eq_false (show ¬(i:Int)<0 by omega),decide_eq_false (show ¬(i:Int)>=(l.length:Int) by omega)];rfl
 show AIf ..
 refine⟨fun _=>?_,fun h=>absurd ⟨(by exact hcnd),trivial⟩ h⟩
 show ACall ..
 refine za (zdk l) rfl ?_
 rw[hm]
 refine zNO (by decide) ?_
 show ACall ..
 refine za (ztt l (i:Int)) rfl ?_
 obtain⟨xs,hxs0⟩:∃xs,xs=zD (l.getD i default) (16*((i:Int)+1)):=⟨_,rfl⟩
 have hlen:xs.length<=8:=by rw[hxs0];exact zha _ _
 have he:startsOn l i=xs.map (·.1):=by rw[hxs0];rfl
 rw[he]
 have hsp:=fun L=>zpy L l i hi hmp.2.2 (hmp.1 i hi)
 rw[←hxs0]at hsp
 obtain⟨St,hSt⟩:∃St:List (Int×Int)->zg,St=fun r=>[(16,.vars [.own 1]),(1,.data .int ((xs.take (xs.length-r.length)).map (·.1)))]:=⟨_,rfl⟩
 have hS0:St xs=[(16,.vars [.own 1]),(1,.data .int ([]:List Int))]:=by rw[hSt];simp<;>rfl
 have hS1:St []=[(16,.vars [.own 1]),(1,.data .int (xs.map (·.1)))]:=by rw[hSt];simp<;>rfl
 show ARange _ _ _ _ _ _ _ _
 refine .mk ⟨[(5,.c (.ptr 1 0 0)),(22,.c (.d (.fn 139 [] [.rp [.sl .page l],.rp [DV.int i]])))],[(1,.vars [.d DV.nilsl])],160⟩ ?_ 139 [.rp [.sl .page l],.rp [DV.int i]] rfl xs 23 rfl [(1,16)] [(5,.c (.ptr 16 0 0))]
  (fun _=>True) St (fun _ _=>False) trivial (.cons _ _ _ (.c _ _ (.ptr _ _ _ _ rfl)) .nil) ?_ ?_ hsp ?_ (fun _=>?_) (fun e H h=>h.elim)
 ·exact⟨[(_,1)],.cons _ _ _ (.c _ _ (.ptr1 _ _ _ _)) (.cons _ _ _ .same .nil),.old 1 _ _ _ _ rfl rfl (.vars _ _ (.cons _ _ _ _ (.d _) .nil)) .nil,rfl⟩
 ·rw[hS0]
  exact .old 16 1 _ _ _ rfl rfl (.vars _ _ (.cons _ _ _ _ (.nilown 1 .int rfl rfl) .nil)) (.new 1 .int _ rfl .nil)
 ·rw[hS0];rfl
 ·intro pre x r hx _
  have h1:xs.take (xs.length-(x::r).length)=pre:=ziR hx
  have h2:xs.take (xs.length-r.length)=pre++[x]:=ziR (by rw[hx];simp)
  have hpre:pre.length<=512:=by rw[hx]at hlen;simp at hlen;omega
  rw[hSt]
  simp only[h1,h2]
  show AOb ((pre.map (·.1)).length+1<=zk) _
  refine⟨by rw[List.length_map];unfold zk;omega,?_⟩
  show AEnd _ _/\True
  refine⟨⟨[(_,1),(16,16)],.old 16 16 _ _ _ rfl rfl (.vars _ _ (.cons _ _ _ _ (.own1 _ _) .nil)) (.old 1 _ _ _ _ rfl rfl (.data_eq ?_) .nil),rfl⟩,trivial⟩
  exact(by simp:(pre.map (fun y:Int×Int=>y.1):List Int)++[x.1]=(pre++[x]).map (fun y=>y.1))
 ·rw[hS1]
  refine⟨rfl,?_⟩
  show ARet ..
  exact⟨[(_,0)],[(0,.data .int (xs.map (·.1)))],[.c (.own 0)],.cons _ _ _ _ (.c _ _ (.own1 _ _)) .nil,.old 0 _ _ _ _ rfl rfl (.data_eq rfl) .nil,rfl,rfl,rfl⟩
def frV (g:Hp) (c:Lists):List CV:=(g.enc++EK.enc .lists c).map .d
set_option maxRecDepth 60000 in
set_option maxHeartbeats 4000000 in
theorem zh0 (g:Hp) (c:Lists) (k:Int) (hs:zC g=true) (hk:0<=k/\k<=2) (hok:g.free.ok) (hf:(g.free.at_ k).length+8<=zk):Spec X 253 [(16,.vars (frV g c))] [.c (.ptr 16 0 0),.int k] (fun H r=>H=[(16,.vars (frV (zL g k) c))]/\r = .int (ze1 g)):=by
 refine zGO X_ok Tryz.f253 fun hb hH=>⟨rfl,?_⟩
 obtain⟨hmw,hmp,hwl,hcl,_,h64⟩:=zl hs
 show ACall ..
 refine za (zlw g.pages 1 hmp (by decide) (by decide)) rfl ?_
 cases hfp:zaO g.pages 1 with
 |none=>
  rw[(zaP hfp k).1,(zaP hfp k).2]
  refine zYE (by decide) ?_
  show ARet ..
  exact⟨[(16,16)],[(16,.vars (frV g c))],[.int 4],.cons _ _ _ _ .same .nil,.old 16 16 _ _ _ rfl rfl (.vars _ _ (zb rfl)) .nil,rfl,rfl,rfl⟩
 |some i=>
  obtain⟨hfr,hil⟩:=za7 hfp
  rw[(zaQ hfp k).1,(zaQ hfp k).2]
  refine zNO (by simp) ?_
  show ACall ..
  refine za (zp2 g.pages i k hmp hk hfr) rfl ?_
  have hmp':=zhA hmp hfr hk
  have hlp:(zbk g.pages i [⟨1,k⟩]).length=g.pages.length:=zuE _ _ _ hil
  show ACall ..
  refine .mk _ (zwp (zbk g.pages i [⟨1,k⟩]) i hmp' (by omega)) fun H r ⟨eH,er⟩ _ _=>⟨.inl rfl,?_⟩
  subst eH er
  obtain⟨L,hL⟩:∃L,L=zbk g.pages i [⟨1,k⟩]:=⟨_,rfl⟩
  rw[←hL]at hmp' hlp ⊢
  have hin:∀a∈startsOn L i,16<=a/\a<16+(g.w.length:Int):=fun a ha=>by
   have:=zcE ((zab hmp').1 i (by omega)) ha
   omega
  have hsl:=zf3 L i
  generalize startsOn L i=O at *
  show ACall ..
  refine .hand [(1184,16)] [(16,.data .int O)] [.c (.view 16 0 O.length)] _ (.cons _ _ _ _ (.c _ _ (.whole _ _ _ rfl rfl)) .nil) (.old 16 1184 _ _ _ rfl rfl (.data_eq rfl) .nil) rfl (zdW O 0 O.length (by omega)) ?_
  rintro H r ⟨rfl,rfl⟩ _ _
  refine⟨rfl,.inl rfl,?_⟩
  have er:zcX O 0 O.length=O.reverse:=by unfold zcX;simp
  have el:((zcX O 0 O.length).length:Int)=(O.length:Int):=by rw[er,List.length_reverse]
  have hrl:O.reverse.length=O.length:=List.length_reverse
  have hin' : ∀a∈O.reverse,16<=a/\a<16+(g.w.length:Int):=fun a ha=>hin a (List.mem_reverse.1 ha)
  show ∃n,_
  refine⟨0,ALoop.inv (ι:={j:Nat // j<=O.length}) (fun q=>⟨[(0,.c (.ptr 16 0 0)),(1,.int (k)),(7,.c (.d (.sl .int (O.reverse)))),(45,.c (.d (.sl .int (O.reverse)))),(46,.int ((O.length:Int))),(47,.int ((q.1:Int)))],[(16,.vars (frV {g with w:=zcW g.w (O.reverse.take q.1),pages:=L} c))],64⟩) (fun q=>O.length-q.1) ⟨0,Nat.zero_le _⟩ ?_ ?_⟩
  ·exact⟨[(16,16)],(by repeat' first|exact .nil|refine .cons _ _ _ ?_ ?_|exact .frz (k:=.int) rfl er|exact .int_eq el|exact .same|exact .c _ _ (.own _ _ rfl)|exact .c _ _ (.ptr _ _ _ _ rfl)|exact .c _ _ (.frz _ _ rfl)|exact .any _),(by exact .old 16 16 _ _ _ rfl rfl (.vars _ _ (zb rfl)) .nil),(by rfl)⟩
  rintro⟨j,hj⟩
  have hj:j<=O.length:=hj
  show ABr (decide ((j:Int)<(O.length:Int))) _ _
  refine⟨fun h=>?_,fun h=>?_⟩
  ·have hjl:j<O.reverse.length:=by have:=of_decide_eq_true h;omega
   have wj:IntKind.i64.wrap ((j:Int)+1)=((j+1:Nat):Int):=zad (i:=j) (by unfold zE;omega)
   show AOb ((0:Int)<=(j:Int)/\(j:Int)<(O.reverse.length:Int)) _
   refine⟨by omega,?_⟩
   have ha:16<=at0 O.reverse j/\at0 O.reverse j<16+(g.w.length:Int):=hin' _ (by rw[zcT hjl];exact List.getElem_mem hjl)
   have hmz:zbo (zcW g.w (O.reverse.take j))=true:=by unfold zbo at hmw ⊢;rw[zea];exact hmw
   show ACall ..
   refine za (zfm (zcW g.w (O.reverse.take j)) (at0 O.reverse j) 0 hmz (by rw[zea];exact ha)) rfl ?_
   have ez:zcW g.w (O.reverse.take (j+1))=(zcW g.w (O.reverse.take j)).set (at0 O.reverse j-16).toNat 0:=by
    rw[List.take_succ_eq_append_getElem hjl,zmi,zcT hjl]
   show ARound ..
   exact⟨⟨j+1,by omega⟩,(by dsimp only;omega),[(16,16)],(by repeat' first|exact .nil|refine .cons _ _ _ ?_ ?_|exact .int_eq wj|exact .same|exact .c _ _ (.own _ _ rfl)|exact .c _ _ (.ptr _ _ _ _ rfl)|exact .c _ _ (.frz _ _ rfl)|exact .any _),(by exact .old 16 16 _ _ _ rfl rfl (.vars _ _ (by rw[ez];exact zb rfl)) .nil),(by rfl)⟩
  ·have hjl:j=O.length:=by have:=of_decide_eq_false h;omega
   have et:O.reverse.take j=O.reverse:=by rw[List.take_of_length_le (by omega)]
   rw[et]
   show ACall ..
   refine za (zfE g.free k O.reverse hk hok (by omega)) rfl ?_
   show ARet ..
   exact⟨[(16,16)],[(16,.vars (frV ⟨zcW g.w O.reverse,L,g.free.set_ k (g.free.at_ k++O.reverse),g.cards⟩ c))],[.int 0],.cons _ _ _ _ .same .nil,.old 16 16 _ _ _ rfl rfl (.vars _ _ (zb rfl)) .nil,rfl,rfl,rfl⟩
theorem zfu {l:Lists} (h:l.ok) (k:Int):(l.at_ k).length<=zk:=by
 unfold Lists.at_
 split
 ·exact h.1
 ·split
  ·exact h.2.1
  ·exact h.2.2
theorem zof {g:Hp} {k:Int} (hk:0<=k/\k<=2) (hok:g.free.ok) (hf:(g.free.at_ k).length+8<=zk):(zL g k).free.ok:=by
 cases h:zaO g.pages 1 with
 |none=>rw[(zaP h k).1];exact hok
 |some i=>
  rw[(zaQ h k).1]
  refine ze7 hok ?_
  rw[List.length_append,List.length_reverse]
  have:=zf3 (zbk g.pages i [⟨1,k⟩]) i
  omega
set_option maxRecDepth 60000 in
set_option maxHeartbeats 4000000 in
theorem zrp (g:Hp) (c:Lists) (k:Int) (hs:zC g=true) (hk:0<=k/\k<=2) (hok:g.free.ok) (hco:c.ok) (hf:(g.free.at_ k).length+8<=zk) (hfc:(g.free.at_ k).length+(c.at_ k).length<=zk):Spec X 232 [(16,.vars (frV g c))] [.c (.ptr 16 0 0),.int k] (fun H r=>H=[(16,.vars (frV (zZ g c k) (zce g c k)))]/\r = .tup [.int (zao g c k),.int (zS g c k)]):=by
 refine zGO X_ok Tryz.f232 fun hb hH=>⟨rfl,?_⟩
 have hkk:k=0\/k=1\/k=2:=by omega
 rcases hkk with rfl|rfl|rfl
 ·show AOb ..
  refine⟨by decide,?_⟩
  show ABr (decide (((c.l0).length:Int)=0)) _ _
  by_cases h1:c.at_ 0=[]
  ·have h1' : c.l0=[]:=h1
   rw[show decide (((c.l0).length:Int)=0)=true by rw[h1'];rfl]
   refine zYE (by decide) ?_
   show AOb ..
   refine⟨by decide,?_⟩
   show ABr (decide (((g.free.l0).length:Int)=0)) _ _
   by_cases h2:g.free.at_ 0=[]
   ·have h2' : g.free.l0=[]:=h2
    rw[show decide (((g.free.l0).length:Int)=0)=true by rw[h2'];rfl]
    refine zYE (by decide) ?_
    show ACall ..
    refine .hand [(16,16)] [(16,.vars (frV g c))] [.c (.ptr 16 0 0),.int 0] _ (.cons _ _ _ _ (.c _ _ (.ptr _ _ _ _ rfl)) (.cons _ _ _ _ .same .nil)) (.old 16 16 _ _ _ rfl rfl (.vars _ _ (zb rfl)) .nil) rfl (zh0 g c 0 hs hk hok hf) ?_
    rintro H r ⟨rfl,rfl⟩ _ _
    refine⟨rfl,.inl rfl,?_⟩
    show ABr (ze1 g != 0) _ _
    rcases ze6 g with he|he
    ·rw[he]
     refine zNO (by decide) ?_
     have eE:zS g c 0=0:=by unfold zS;rw[if_pos ⟨h1,h2⟩];exact he
     have eR:refG g c 0=zL g 0:=by unfold refG;rw[if_pos ⟨h1,h2⟩]
     have hgp:=zc4 hk eE
     have okR:(zL g 0).free.ok:=zof hk hok hf
     unfold zZ zce zao
     rw[if_pos eE,if_pos eE,if_pos eE,if_pos h1,eE]
     unfold zhU zcP at *
     rw[if_pos h1]at hgp
     rw[if_pos h1,if_pos h1,eR]
     rw[eR]at hgp
     have hgl:((((zL g 0)).free.at_ 0).drop (leftOf (((zL g 0)).free.at_ 0).length 2)).reverse.length<=zk:=by rw[List.length_reverse,List.length_drop];have:=zfu okR 0;omega
     have sp:=zee ((zL g 0)).free c 0 2 ⟨by decide,by decide⟩ (by decide) (by decide) okR hco (by rw[h1];exact zfu okR 0)
     rw[h1,List.nil_append]at sp
     show ADCall ..
     refine .mk _ _ (sp) rfl ?_
     have sq:=zcY (c.set_ 0 ((((zL g 0)).free.at_ 0).drop (leftOf (((zL g 0)).free.at_ 0).length 2)).reverse) 0 ⟨by decide,by decide⟩ (ze7 hco hgl) (by rw[za5 ⟨by decide,by decide⟩];exact hgp)
     rw[set_set,za5 ⟨by decide,by decide⟩]at sq
     show ACall ..
     refine za (sq) rfl ?_
     show ARet ..
     exact⟨[(16,16)],[(16,.vars (frV {(zL g 0) with free:=((zL g 0)).free.set_ 0 ((((zL g 0)).free.at_ 0).take (leftOf (((zL g 0)).free.at_ 0).length 2))} (c.set_ 0 ((((((zL g 0)).free.at_ 0).drop (leftOf (((zL g 0)).free.at_ 0).length 2)).reverse).take ((((((zL g 0)).free.at_ 0).drop (leftOf (((zL g 0)).free.at_ 0).length 2)).reverse).length-1)))))],[.int (at0 ((((zL g 0)).free.at_ 0).drop (leftOf (((zL g 0)).free.at_ 0).length 2)).reverse (((((zL g 0)).free.at_ 0).drop (leftOf (((zL g 0)).free.at_ 0).length 2)).reverse.length-1)),.int 0],.cons _ _ _ _ .same (.cons _ _ _ _ .same .nil),.old 16 16 _ _ _ rfl rfl (.vars _ _ (zb rfl)) .nil,rfl,rfl,rfl⟩
    ·rw[he]
     refine zYE (by decide) ?_
     have eE:zS g c 0=4:=by unfold zS;rw[if_pos ⟨h1,h2⟩];exact he
     obtain⟨e1,e2,e3,_⟩:=zjf (g:=g) (c:=c) (k:=0) (by rw[eE];decide)
     have eP:zL g 0=g:=by
      cases hfp:zaO g.pages 1 with
      |none=>exact(zaP hfp 0).1
      |some i=>rw[(zaQ hfp 0).2]at he;cases he
     rw[e1,e2,e3,eE,eP]
     show ARet ..
     exact⟨[(16,16)],[(16,.vars (frV g c))],[.int 0,.int 4],.cons _ _ _ _ .same (.cons _ _ _ _ .same .nil),.old 16 16 _ _ _ rfl rfl (.vars _ _ (zb rfl)) .nil,rfl,rfl,rfl⟩
   ·have h2' : g.free.l0≠[]:=h2
    rw[show decide (((g.free.l0).length:Int)=0)=false from decide_eq_false fun q=>h2' (List.eq_nil_of_length_eq_zero (by omega))]
    refine zNO (by decide) ?_
    have eE:zS g c 0=0:=by unfold zS;rw[if_neg fun q=>h2 q.2]
    have eR:refG g c 0=g:=by unfold refG;rw[if_neg fun q=>h2 q.2]
    have hgp:=zc4 hk eE
    have okR:=hok
    unfold zZ zce zao
    rw[if_pos eE,if_pos eE,if_pos eE,if_pos h1,eE]
    unfold zhU zcP at *
    rw[if_pos h1]at hgp
    rw[if_pos h1,if_pos h1,eR]
    rw[eR]at hgp
    have hgl:(((g).free.at_ 0).drop (leftOf ((g).free.at_ 0).length 2)).reverse.length<=zk:=by rw[List.length_reverse,List.length_drop];have:=zfu okR 0;omega
    have sp:=zee (g).free c 0 2 ⟨by decide,by decide⟩ (by decide) (by decide) okR hco (by rw[h1];exact zfu okR 0)
    rw[h1,List.nil_append]at sp
    show ADCall ..
    refine .mk _ _ (sp) rfl ?_
    have sq:=zcY (c.set_ 0 (((g).free.at_ 0).drop (leftOf ((g).free.at_ 0).length 2)).reverse) 0 ⟨by decide,by decide⟩ (ze7 hco hgl) (by rw[za5 ⟨by decide,by decide⟩];exact hgp)
    rw[set_set,za5 ⟨by decide,by decide⟩]at sq
    show ACall ..
    refine za (sq) rfl ?_
    show ARet ..
    exact⟨[(16,16)],[(16,.vars (frV {g with free:=(g).free.set_ 0 (((g).free.at_ 0).take (leftOf ((g).free.at_ 0).length 2))} (c.set_ 0 (((((g).free.at_ 0).drop (leftOf ((g).free.at_ 0).length 2)).reverse).take (((((g).free.at_ 0).drop (leftOf ((g).free.at_ 0).length 2)).reverse).length-1)))))],[.int (at0 (((g).free.at_ 0).drop (leftOf ((g).free.at_ 0).length 2)).reverse ((((g).free.at_ 0).drop (leftOf ((g).free.at_ 0).length 2)).reverse.length-1)),.int 0],.cons _ _ _ _ .same (.cons _ _ _ _ .same .nil),.old 16 16 _ _ _ rfl rfl (.vars _ _ (zb rfl)) .nil,rfl,rfl,rfl⟩
  ·have h1' : c.l0≠[]:=h1
   rw[show decide (((c.l0).length:Int)=0)=false from decide_eq_false fun q=>h1' (List.eq_nil_of_length_eq_zero (by omega))]
   refine zNO (by decide) ?_
   have eE:zS g c 0=0:=by unfold zS;rw[if_neg fun q=>h1 q.1]
   have hgp:=zc4 hk eE
   unfold zZ zce zao
   rw[if_pos eE,if_pos eE,if_pos eE,if_neg h1,eE]
   unfold zcP at *
   rw[if_neg h1]at hgp
   rw[if_neg h1]
   show ACall ..
   refine za (zcY c 0 ⟨by decide,by decide⟩ hco hgp) rfl ?_
   show ARet ..
   exact⟨[(16,16)],[(16,.vars (frV g (c.set_ 0 ((c.at_ 0).take ((c.at_ 0).length-1)))))],[.int (at0 (c.at_ 0) ((c.at_ 0).length-1)),.int 0],.cons _ _ _ _ .same (.cons _ _ _ _ .same .nil),.old 16 16 _ _ _ rfl rfl (.vars _ _ (zb rfl)) .nil,rfl,rfl,rfl⟩
 ·show AOb ..
  refine⟨by decide,?_⟩
  show ABr (decide (((c.l1).length:Int)=0)) _ _
  by_cases h1:c.at_ 1=[]
  ·have h1' : c.l1=[]:=h1
   rw[show decide (((c.l1).length:Int)=0)=true by rw[h1'];rfl]
   refine zYE (by decide) ?_
   show AOb ..
   refine⟨by decide,?_⟩
   show ABr (decide (((g.free.l1).length:Int)=0)) _ _
   by_cases h2:g.free.at_ 1=[]
   ·have h2' : g.free.l1=[]:=h2
    rw[show decide (((g.free.l1).length:Int)=0)=true by rw[h2'];rfl]
    refine zYE (by decide) ?_
    show ACall ..
    refine .hand [(16,16)] [(16,.vars (frV g c))] [.c (.ptr 16 0 0),.int 1] _ (.cons _ _ _ _ (.c _ _ (.ptr _ _ _ _ rfl)) (.cons _ _ _ _ .same .nil)) (.old 16 16 _ _ _ rfl rfl (.vars _ _ (zb rfl)) .nil) rfl (zh0 g c 1 hs hk hok hf) ?_
    rintro H r ⟨rfl,rfl⟩ _ _
    refine⟨rfl,.inl rfl,?_⟩
    show ABr (ze1 g != 0) _ _
    rcases ze6 g with he|he
    ·rw[he]
     refine zNO (by decide) ?_
     have eE:zS g c 1=0:=by unfold zS;rw[if_pos ⟨h1,h2⟩];exact he
     have eR:refG g c 1=zL g 1:=by unfold refG;rw[if_pos ⟨h1,h2⟩]
     have hgp:=zc4 hk eE
     have okR:(zL g 1).free.ok:=zof hk hok hf
     unfold zZ zce zao
     rw[if_pos eE,if_pos eE,if_pos eE,if_pos h1,eE]
     unfold zhU zcP at *
     rw[if_pos h1]at hgp
     rw[if_pos h1,if_pos h1,eR]
     rw[eR]at hgp
     have hgl:((((zL g 1)).free.at_ 1).drop (leftOf (((zL g 1)).free.at_ 1).length 2)).reverse.length<=zk:=by rw[List.length_reverse,List.length_drop];have:=zfu okR 1;omega
     have sp:=zee ((zL g 1)).free c 1 2 ⟨by decide,by decide⟩ (by decide) (by decide) okR hco (by rw[h1];exact zfu okR 1)
     rw[h1,List.nil_append]at sp
     show ADCall ..
     refine .mk _ _ (sp) rfl ?_
     have sq:=zcY (c.set_ 1 ((((zL g 1)).free.at_ 1).drop (leftOf (((zL g 1)).free.at_ 1).length 2)).reverse) 1 ⟨by decide,by decide⟩ (ze7 hco hgl) (by rw[za5 ⟨by decide,by decide⟩];exact hgp)
     rw[set_set,za5 ⟨by decide,by decide⟩]at sq
     show ACall ..
     refine za (sq) rfl ?_
     show ARet ..
     exact⟨[(16,16)],[(16,.vars (frV {(zL g 1) with free:=((zL g 1)).free.set_ 1 ((((zL g 1)).free.at_ 1).take (leftOf (((zL g 1)).free.at_ 1).length 2))} (c.set_ 1 ((((((zL g 1)).free.at_ 1).drop (leftOf (((zL g 1)).free.at_ 1).length 2)).reverse).take ((((((zL g 1)).free.at_ 1).drop (leftOf (((zL g 1)).free.at_ 1).length 2)).reverse).length-1)))))],[.int (at0 ((((zL g 1)).free.at_ 1).drop (leftOf (((zL g 1)).free.at_ 1).length 2)).reverse (((((zL g 1)).free.at_ 1).drop (leftOf (((zL g 1)).free.at_ 1).length 2)).reverse.length-1)),.int 0],.cons _ _ _ _ .same (.cons _ _ _ _ .same .nil),.old 16 16 _ _ _ rfl rfl (.vars _ _ (zb rfl)) .nil,rfl,rfl,rfl⟩
    ·rw[he]
     refine zYE (by decide) ?_
     have eE:zS g c 1=4:=by unfold zS;rw[if_pos ⟨h1,h2⟩];exact he
     obtain⟨e1,e2,e3,_⟩:=zjf (g:=g) (c:=c) (k:=1) (by rw[eE];decide)
     have eP:zL g 1=g:=by
      cases hfp:zaO g.pages 1 with
      |none=>exact(zaP hfp 1).1
      |some i=>rw[(zaQ hfp 1).2]at he;cases he
     rw[e1,e2,e3,eE,eP]
     show ARet ..
     exact⟨[(16,16)],[(16,.vars (frV g c))],[.int 0,.int 4],.cons _ _ _ _ .same (.cons _ _ _ _ .same .nil),.old 16 16 _ _ _ rfl rfl (.vars _ _ (zb rfl)) .nil,rfl,rfl,rfl⟩
   ·have h2' : g.free.l1≠[]:=h2
    rw[show decide (((g.free.l1).length:Int)=0)=false from decide_eq_false fun q=>h2' (List.eq_nil_of_length_eq_zero (by omega))]
    refine zNO (by decide) ?_
    have eE:zS g c 1=0:=by unfold zS;rw[if_neg fun q=>h2 q.2]
    have eR:refG g c 1=g:=by unfold refG;rw[if_neg fun q=>h2 q.2]
    have hgp:=zc4 hk eE
    have okR:=hok
    unfold zZ zce zao
    rw[if_pos eE,if_pos eE,if_pos eE,if_pos h1,eE]
    unfold zhU zcP at *
    rw[if_pos h1]at hgp
    rw[if_pos h1,if_pos h1,eR]
    rw[eR]at hgp
    have hgl:(((g).free.at_ 1).drop (leftOf ((g).free.at_ 1).length 2)).reverse.length<=zk:=by rw[List.length_reverse,List.length_drop];have:=zfu okR 1;omega
    have sp:=zee (g).free c 1 2 ⟨by decide,by decide⟩ (by decide) (by decide) okR hco (by rw[h1];exact zfu okR 1)
    rw[h1,List.nil_append]at sp
    show ADCall ..
    refine .mk _ _ (sp) rfl ?_
    have sq:=zcY (c.set_ 1 (((g).free.at_ 1).drop (leftOf ((g).free.at_ 1).length 2)).reverse) 1 ⟨by decide,by decide⟩ (ze7 hco hgl) (by rw[za5 ⟨by decide,by decide⟩];exact hgp)
    rw[set_set,za5 ⟨by decide,by decide⟩]at sq
    show ACall ..
    refine za (sq) rfl ?_
    show ARet ..
    exact⟨[(16,16)],[(16,.vars (frV {g with free:=(g).free.set_ 1 (((g).free.at_ 1).take (leftOf ((g).free.at_ 1).length 2))} (c.set_ 1 (((((g).free.at_ 1).drop (leftOf ((g).free.at_ 1).length 2)).reverse).take (((((g).free.at_ 1).drop (leftOf ((g).free.at_ 1).length 2)).reverse).length-1)))))],[.int (at0 (((g).free.at_ 1).drop (leftOf ((g).free.at_ 1).length 2)).reverse ((((g).free.at_ 1).drop (leftOf ((g).free.at_ 1).length 2)).reverse.length-1)),.int 0],.cons _ _ _ _ .same (.cons _ _ _ _ .same .nil),.old 16 16 _ _ _ rfl rfl (.vars _ _ (zb rfl)) .nil,rfl,rfl,rfl⟩
  ·have h1' : c.l1≠[]:=h1
   rw[show decide (((c.l1).length:Int)=0)=false from decide_eq_false fun q=>h1' (List.eq_nil_of_length_eq_zero (by omega))]
   refine zNO (by decide) ?_
   have eE:zS g c 1=0:=by unfold zS;rw[if_neg fun q=>h1 q.1]
   have hgp:=zc4 hk eE
   unfold zZ zce zao
   rw[if_pos eE,if_pos eE,if_pos eE,if_neg h1,eE]
   unfold zcP at *
   rw[if_neg h1]at hgp
   rw[if_neg h1]
   show ACall ..
   refine za (zcY c 1 ⟨by decide,by decide⟩ hco hgp) rfl ?_
   show ARet ..
   exact⟨[(16,16)],[(16,.vars (frV g (c.set_ 1 ((c.at_ 1).take ((c.at_ 1).length-1)))))],[.int (at0 (c.at_ 1) ((c.at_ 1).length-1)),.int 0],.cons _ _ _ _ .same (.cons _ _ _ _ .same .nil),.old 16 16 _ _ _ rfl rfl (.vars _ _ (zb rfl)) .nil,rfl,rfl,rfl⟩
 ·show AOb ..
  refine⟨by decide,?_⟩
  show ABr (decide (((c.l2).length:Int)=0)) _ _
  by_cases h1:c.at_ 2=[]
  ·have h1' : c.l2=[]:=h1
   rw[show decide (((c.l2).length:Int)=0)=true by rw[h1'];rfl]
   refine zYE (by decide) ?_
   show AOb ..
   refine⟨by decide,?_⟩
   show ABr (decide (((g.free.l2).length:Int)=0)) _ _
   by_cases h2:g.free.at_ 2=[]
   ·have h2' : g.free.l2=[]:=h2
    rw[show decide (((g.free.l2).length:Int)=0)=true by rw[h2'];rfl]
    refine zYE (by decide) ?_
    show ACall ..
    refine .hand [(16,16)] [(16,.vars (frV g c))] [.c (.ptr 16 0 0),.int 2] _ (.cons _ _ _ _ (.c _ _ (.ptr _ _ _ _ rfl)) (.cons _ _ _ _ .same .nil)) (.old 16 16 _ _ _ rfl rfl (.vars _ _ (zb rfl)) .nil) rfl (zh0 g c 2 hs hk hok hf) ?_
    rintro H r ⟨rfl,rfl⟩ _ _
    refine⟨rfl,.inl rfl,?_⟩
    show ABr (ze1 g != 0) _ _
    rcases ze6 g with he|he
    ·rw[he]
     refine zNO (by decide) ?_
     have eE:zS g c 2=0:=by unfold zS;rw[if_pos ⟨h1,h2⟩];exact he
     have eR:refG g c 2=zL g 2:=by unfold refG;rw[if_pos ⟨h1,h2⟩]
     have hgp:=zc4 hk eE
     have okR:(zL g 2).free.ok:=zof hk hok hf
     unfold zZ zce zao
     rw[if_pos eE,if_pos eE,if_pos eE,if_pos h1,eE]
     unfold zhU zcP at *
     rw[if_pos h1]at hgp
     rw[if_pos h1,if_pos h1,eR]
     rw[eR]at hgp
     have hgl:((((zL g 2)).free.at_ 2).drop (leftOf (((zL g 2)).free.at_ 2).length 2)).reverse.length<=zk:=by rw[List.length_reverse,List.length_drop];have:=zfu okR 2;omega
     have sp:=zee ((zL g 2)).free c 2 2 ⟨by decide,by decide⟩ (by decide) (by decide) okR hco (by rw[h1];exact zfu okR 2)
     rw[h1,List.nil_append]at sp
     show ADCall ..
     refine .mk _ _ (sp) rfl ?_
     have sq:=zcY (c.set_ 2 ((((zL g 2)).free.at_ 2).drop (leftOf (((zL g 2)).free.at_ 2).length 2)).reverse) 2 ⟨by decide,by decide⟩ (ze7 hco hgl) (by rw[za5 ⟨by decide,by decide⟩];exact hgp)
     rw[set_set,za5 ⟨by decide,by decide⟩]at sq
     show ACall ..
     refine za (sq) rfl ?_
     show ARet ..
     exact⟨[(16,16)],[(16,.vars (frV {(zL g 2) with free:=((zL g 2)).free.set_ 2 ((((zL g 2)).free.at_ 2).take (leftOf (((zL g 2)).free.at_ 2).length 2))} (c.set_ 2 ((((((zL g 2)).free.at_ 2).drop (leftOf (((zL g 2)).free.at_ 2).length 2)).reverse).take ((((((zL g 2)).free.at_ 2).drop (leftOf (((zL g 2)).free.at_ 2).length 2)).reverse).length-1)))))],[.int (at0 ((((zL g 2)).free.at_ 2).drop (leftOf (((zL g 2)).free.at_ 2).length 2)).reverse (((((zL g 2)).free.at_ 2).drop (leftOf (((zL g 2)).free.at_ 2).length 2)).reverse.length-1)),.int 0],.cons _ _ _ _ .same (.cons _ _ _ _ .same .nil),.old 16 16 _ _ _ rfl rfl (.vars _ _ (zb rfl)) .nil,rfl,rfl,rfl⟩
    ·rw[he]
     refine zYE (by decide) ?_
     have eE:zS g c 2=4:=by unfold zS;rw[if_pos ⟨h1,h2⟩];exact he
     obtain⟨e1,e2,e3,_⟩:=zjf (g:=g) (c:=c) (k:=2) (by rw[eE];decide)
     have eP:zL g 2=g:=by
      cases hfp:zaO g.pages 1 with
      |none=>exact(zaP hfp 2).1
      |some i=>rw[(zaQ hfp 2).2]at he;cases he
     rw[e1,e2,e3,eE,eP]
     show ARet ..
     exact⟨[(16,16)],[(16,.vars (frV g c))],[.int 0,.int 4],.cons _ _ _ _ .same (.cons _ _ _ _ .same .nil),.old 16 16 _ _ _ rfl rfl (.vars _ _ (zb rfl)) .nil,rfl,rfl,rfl⟩
   ·have h2' : g.free.l2≠[]:=h2
    rw[show decide (((g.free.l2).length:Int)=0)=false from decide_eq_false fun q=>h2' (List.eq_nil_of_length_eq_zero (by omega))]
    refine zNO (by decide) ?_
    have eE:zS g c 2=0:=by unfold zS;rw[if_neg fun q=>h2 q.2]
    have eR:refG g c 2=g:=by unfold refG;rw[if_neg fun q=>h2 q.2]
    have hgp:=zc4 hk eE
    have okR:=hok
    unfold zZ zce zao
    rw[if_pos eE,if_pos eE,if_pos eE,if_pos h1,eE]
    unfold zhU zcP at *
    rw[if_pos h1]at hgp
    rw[if_pos h1,if_pos h1,eR]
    rw[eR]at hgp
    have hgl:(((g).free.at_ 2).drop (leftOf ((g).free.at_ 2).length 2)).reverse.length<=zk:=by rw[List.length_reverse,List.length_drop];have:=zfu okR 2;omega
    have sp:=zee (g).free c 2 2 ⟨by decide,by decide⟩ (by decide) (by decide) okR hco (by rw[h1];exact zfu okR 2)
    rw[h1,List.nil_append]at sp
    show ADCall ..
    refine .mk _ _ (sp) rfl ?_
    have sq:=zcY (c.set_ 2 (((g).free.at_ 2).drop (leftOf ((g).free.at_ 2).length 2)).reverse) 2 ⟨by decide,by decide⟩ (ze7 hco hgl) (by rw[za5 ⟨by decide,by decide⟩];exact hgp)
    rw[set_set,za5 ⟨by decide,by decide⟩]at sq
    show ACall ..
    refine za (sq) rfl ?_
    show ARet ..
    exact⟨[(16,16)],[(16,.vars (frV {g with free:=(g).free.set_ 2 (((g).free.at_ 2).take (leftOf ((g).free.at_ 2).length 2))} (c.set_ 2 (((((g).free.at_ 2).drop (leftOf ((g).free.at_ 2).length 2)).reverse).take (((((g).free.at_ 2).drop (leftOf ((g).free.at_ 2).length 2)).reverse).length-1)))))],[.int (at0 (((g).free.at_ 2).drop (leftOf ((g).free.at_ 2).length 2)).reverse ((((g).free.at_ 2).drop (leftOf ((g).free.at_ 2).length 2)).reverse.length-1)),.int 0],.cons _ _ _ _ .same (.cons _ _ _ _ .same .nil),.old 16 16 _ _ _ rfl rfl (.vars _ _ (zb rfl)) .nil,rfl,rfl,rfl⟩
  ·have h1' : c.l2≠[]:=h1
   rw[show decide (((c.l2).length:Int)=0)=false from decide_eq_false fun q=>h1' (List.eq_nil_of_length_eq_zero (by omega))]
   refine zNO (by decide) ?_
   have eE:zS g c 2=0:=by unfold zS;rw[if_neg fun q=>h1 q.1]
   have hgp:=zc4 hk eE
   unfold zZ zce zao
   rw[if_pos eE,if_pos eE,if_pos eE,if_neg h1,eE]
   unfold zcP at *
   rw[if_neg h1]at hgp
   rw[if_neg h1]
   show ACall ..
   refine za (zcY c 2 ⟨by decide,by decide⟩ hco hgp) rfl ?_
   show ARet ..
   exact⟨[(16,16)],[(16,.vars (frV g (c.set_ 2 ((c.at_ 2).take ((c.at_ 2).length-1)))))],[.int (at0 (c.at_ 2) ((c.at_ 2).length-1)),.int 0],.cons _ _ _ _ .same (.cons _ _ _ _ .same .nil),.old 16 16 _ _ _ rfl rfl (.vars _ _ (zb rfl)) .nil,rfl,rfl,rfl⟩
set_option maxRecDepth 60000 in
set_option maxHeartbeats 4000000 in
theorem zpI (g:Hp) (c:Lists) (n:Int) (hs:zC g=true) (hn:n<=63) (hr:1<=zaV n/\zaV n<=4):Spec X 233 [(16,.vars (frV g c))] [.c (.ptr 16 0 0),.int n] (fun H r=>H=[(16,.vars (frV (zaK g n) c))]/\r = .tup [.int (za0 g n),.int (zbZ g n)]):=by
 refine zGO X_ok Tryz.f233 fun hb hH=>⟨rfl,?_⟩
 obtain⟨hmw,hmp,hwl,hcl,_,h64⟩:=zl hs
 obtain⟨m,em⟩:∃m:Nat,zaV n=(m:Int):=⟨(zaV n).toNat,by omega⟩
 show ACall ..
 refine za (znI n (by omega)) rfl ?_
 have eI:zcu g n=zaO g.pages m:=by unfold zcu;rw[em];rfl
 rw[em]
 show ACall ..
 refine za (zlw g.pages m hmp (by omega) (by omega)) rfl ?_
 cases hf:zaO g.pages m with
 |none=>
  obtain⟨e1,e2,e3⟩:=zev (eI.trans hf)
  rw[e1,e2,e3]
  refine zYE (by decide) ?_
  show ARet ..
  exact⟨[(16,16)],[(16,.vars (frV g c))],[.int 0,.int 4],.cons _ _ _ _ .same (.cons _ _ _ _ .same .nil),.old 16 16 _ _ _ rfl rfl (.vars _ _ (zb rfl)) .nil,rfl,rfl,rfl⟩
 |some i=>
  obtain⟨e1,e2,e3⟩:=zef (eI.trans hf)
  obtain⟨hfr,hil⟩:=za7 hf
  rw[e1,e2,e3]
  refine zNO (by simp) ?_
  show ACall ..
  refine za (zqY g.pages i m hmp (by omega) (by omega) hfr) rfl ?_
  show ACall ..
  refine za (zvJ g.w i hmw (by omega)) rfl ?_
  rw[em]
  show ARet ..
  exact⟨[(16,16)],[(16,.vars (frV {g with pages:=zbk g.pages i (⟨2,(m:Int)⟩::List.replicate ((m:Int).toNat-1) ⟨3,0⟩)} c))],[.int (16*((i:Int)+1)),.int 0],.cons _ _ _ _ .same (.cons _ _ _ _ .same .nil),.old 16 16 _ _ _ rfl rfl (.vars _ _ (zb rfl)) .nil,rfl,rfl,rfl⟩
theorem zvj (g:Hp) (hs:g.small):Spec X 231 [] [g.tv] (Ret [] g.tv):=by
 refine zGO X_ok Tryz.f231 fun hb hH=>⟨rfl,?_⟩
 obtain⟨h1,h2,h3,h4,h5,h6⟩:=hs
 show ADCall ..
 refine .mk _ _ (zd g.w h1) rfl ?_
 show ADCall ..
 refine .mk _ _ (zac g.pages h2) rfl ?_
 show ADCall ..
 refine .mk _ _ (zah g.cards h3) rfl ?_
 show ∃n,_
 refine⟨4,?_⟩
 show ALoop ..
 refine .next ?_
 refine zYE (by decide) ?_
 show AOb ..
 refine⟨by decide,?_⟩
 show ACall ..
 refine za (zd g.free.l0 h4) rfl ?_
 show AOb ..
 refine⟨by decide,?_⟩
 show ALoop ..
 refine .next ?_
 refine zYE (by decide) ?_
 show AOb ..
 refine⟨by decide,?_⟩
 show ACall ..
 refine za (zd g.free.l1 h5) rfl ?_
 show AOb ..
 refine⟨by decide,?_⟩
 show ALoop ..
 refine .next ?_
 refine zYE (by decide) ?_
 show AOb ..
 refine⟨by decide,?_⟩
 show ACall ..
 refine za (zd g.free.l2 h6) rfl ?_
 show AOb ..
 refine⟨by decide,?_⟩
 show ALoop ..
 refine .next ?_
 refine zNO (by decide) ?_
 show ARet ..
 exact zi rfl ⟨rfl,rfl⟩
theorem zeE (e:Int):Spec X 230 [] [.int e] (Ret [] (.tup [Hp.zero.tv,Lists.zero.tv,.int 0,.int e])):=by
 refine zGO X_ok Tryz.f230 fun hb hH=>⟨rfl,?_⟩
 show ARet ..
 exact⟨[],[],[Hp.zero.tv,Lists.zero.tv,.int 0,.int e],.cons _ _ _ _ (.agg _ _ (.cons _ _ _ _ (.nilsl .int) (.cons _ _ _ _ (.nilsl .page) (.cons _ _ _ _ (.nilsl .int) (.cons _ _ _ _ (.nilsl .int) (.cons _ _ _ _ (.nilsl .int) (.cons _ _ _ _ (.nilsl .bool) .nil))))))) (.cons _ _ _ _ (.agg _ _ (.cons _ _ _ _ (.nilsl .int) (.cons _ _ _ _ (.nilsl .int) (.cons _ _ _ _ (.nilsl .int) .nil)))) (.cons _ _ _ _ .same (.cons _ _ _ _ .same .nil))),.nil,rfl,rfl,rfl⟩
theorem zt1 (l:Lists) (k:Int):(l.at_ k).length<=l.flat.length:=by
 unfold Lists.at_ Lists.flat
 rw[List.length_append,List.length_append]
 split
 ·omega
 ·split<;>omega
theorem zhC {g:Hp} {c:Lists} (h:(zn (zeL g [c])).length<=zk) (k:Int):(g.free.at_ k).length+(c.at_ k).length<=zk:=by
 have e:zn (zeL g [c])=g.free.flat++(c.flat++zn []):=rfl
 rw[e,List.length_append,List.length_append]at h
 have:=zt1 g.free k
 have:=zt1 c k
 omega
theorem znU {x:Hd} (h:zc5 x=0):zhO x=x.word:=by
 unfold zc5 at h
 unfold zhO
 by_cases hm:x.May
 ·rw[if_pos hm]
 ·rw[if_neg hm]at h;cases h
set_option maxRecDepth 60000 in
set_option maxHeartbeats 4000000 in
theorem zuY (g:Hp) (c:Lists) (x:Hd) (hs:g.small) (hco:c.ok) (hlm:(zn (zeL g [c])).length<=zk):Spec X 191 [] [g.tv,c.tv,x.tv] (Ret [] (.tup [(ze5 g c x).tv,(zkv g c x).tv,.int (zfD g c x),.int (zaw g c x)])):=by
 refine Spec.fz (zGO zmN Tryz.f191 fun hb hH=>⟨rfl,?_⟩)
 show ACall ..
 refine za ((zmC x).uz) rfl ?_
 by_cases h1:zc5 x≠0\/x.used=false
 ·have hb1:(bif zc5 x != 0 then true else !x.used)=true:=by
   rcases h1 with h|h
   ·rw[show(zc5 x != 0)=true by simpa using h];rfl
   ·rw[h];cases (zc5 x != 0)<;>rfl
  show AIf ((bif zc5 x != 0 then true else !x.used)=false/\True) _ _
  rw[hb1]
  show AIf ..
  refine⟨fun h=>absurd h.1 (by decide),fun _=>?_⟩
  show AOb ..
  refine⟨by decide,?_⟩
  refine zYE (by decide) ?_
  have eE:zaw g c x=1:=by unfold zaw;rw[if_pos (h1.elim .inl fun q=>.inr (.inl q))]
  show ACall ..
  refine za ((zeE 1).uz) rfl ?_
  have hne:zaw g c x≠0:=by rw[eE];decide
  rw[(zbE hne).1,(zbE hne).2.1,(zbE hne).2.2,eE]
  show ARet ..
  exact zi rfl ⟨rfl,rfl⟩
 ·have hb1:(bif zc5 x != 0 then true else !x.used)=false:=by
   cases hu:x.used with
   |false=>exact absurd (.inr hu) h1
   |true=>
    by_cases hp:zc5 x=0
    ·rw[hp];rfl
    ·exact absurd (.inl hp) h1
  show AIf ((bif zc5 x != 0 then true else !x.used)=false/\True) _ _
  rw[hb1]
  show AIf ..
  refine⟨fun _=>?_,fun h=>absurd ⟨(by rfl),trivial⟩ h⟩
  show ACall ..
  refine za ((zeg g [c] hlm (by unfold zk;simp)).uz) rfl ?_
  cases hm:zx g [c] with
  |false=>
   refine zYE (by decide) ?_
   have eE:zaw g c x=1:=by unfold zaw;rw[if_pos (.inr (.inr hm))]
   show ACall ..
   refine za ((zeE 1).uz) rfl ?_
   have hne:zaw g c x≠0:=by rw[eE];decide
   rw[(zbE hne).1,(zbE hne).2.1,(zbE hne).2.2,eE]
   show ARet ..
   exact zi rfl ⟨rfl,rfl⟩
  |true=>
   refine zNO (by decide) ?_
   have hsh:=zA hm
   have e0:zaw g c x=if zaM x.n≠0 then zaM x.n else if clsOf x.n=3 then zbZ g x.n else zS g c (clsOf x.n):=by
    unfold zaw
    rw[if_neg (fun q=>q.elim (fun q=>h1 (.inl q)) fun q=>q.elim (fun q=>h1 (.inr q)) fun q=>by rw[hm]at q;cases q)]
   show ACall ..
   refine za ((ziN x.n).uz) rfl ?_
   by_cases h2:zaM x.n=0
   ·rw[if_neg (fun q=>q h2)]at e0
    show ABr (zaM x.n != 0) _ _
    rw[show(zaM x.n != 0)=false by rw[h2];rfl]
    refine zNO (by decide) ?_
    obtain⟨c1,c2,c3,c4,c5⟩:=zka h2
    show ADCall ..
    refine .mk _ _ ((zvj g hs).uz) rfl ?_
    show ∃n,_
    refine⟨4,?_⟩
    show ALoop ..
    refine .next ?_
    refine zYE (by decide) ?_
    show AOb ..
    refine⟨by decide,?_⟩
    show ADCall ..
    refine .mk _ _ ((zd c.l0 hco.1).uz) rfl ?_
    show AOb ..
    refine⟨by decide,?_⟩
    show ALoop ..
    refine .next ?_
    refine zYE (by decide) ?_
    show AOb ..
    refine⟨by decide,?_⟩
    show ADCall ..
    refine .mk _ _ ((zd c.l1 hco.2.1).uz) rfl ?_
    show AOb ..
    refine⟨by decide,?_⟩
    show ALoop ..
    refine .next ?_
    refine zYE (by decide) ?_
    show AOb ..
    refine⟨by decide,?_⟩
    show ADCall ..
    refine .mk _ _ ((zd c.l2 hco.2.2).uz) rfl ?_
    show AOb ..
    refine⟨by decide,?_⟩
    show ALoop ..
    refine .next ?_
    refine zNO (by decide) ?_
    show ABr (clsOf x.n==3) _ _
    by_cases h3:clsOf x.n=3
    ·rw[if_pos h3]at e0
     rw[show(clsOf x.n==3)=true by simpa using h3]
     refine zYE (by decide) ?_
     show ACall ..
     refine .hand [(1408,16)] [(16,.vars (frV g c))] [.c (.ptr 16 0 0),.int x.n] _ (.cons _ _ _ _ (.c _ _ (.ptr _ _ _ _ rfl)) (.cons _ _ _ _ .same .nil)) (.old 16 1408 _ _ _ rfl rfl (.vars _ _ (zb rfl)) .nil) rfl (zpI g c x.n hsh c2 ⟨(c5 h3).1,(c5 h3).2.1⟩).uz ?_
     rintro H r ⟨rfl,rfl⟩ _ _
     refine⟨rfl,.inl rfl,?_⟩
     show ABr ((zbZ g x.n) != 0) _ _
     by_cases hE:zaw g c x=0
     ·rw[show((zbZ g x.n) != 0)=false by rw[←e0,hE];rfl]
      refine zNO (by decide) ?_
      have hc:=zeH hE
      unfold zeJ zjn at hc
      rw[if_pos h3,if_pos h3]at hc
      obtain⟨k1,k2,k3,_,k5,_⟩:=hc
      obtain⟨hmw,hmp,hwl,hcl,_,h64⟩:=zl hsh
      have hkw:zbo (zaK g x.n).w=true:=by unfold zbo at hmw ⊢;rw[k3];exact hmw
      have hce:=zas (zz k1)
      have hce1:16<=(za0 g x.n):=hce.1
      have hce2:0<ze (zaK g x.n).pages (za0 g x.n):=hce.2.1
      have hce3:(za0 g x.n)+ze (zaK g x.n).pages (za0 g x.n)<=16*(((zaK g x.n).pages.length:Int)+1):=hce.2.2
      have hzl:(zK (zaK g x.n).w ((za0 g x.n)-16).toNat (List.replicate (ze (zaK g x.n).pages (za0 g x.n)).toNat (0:Int))).length=(zaK g x.n).w.length:=zdy _ _ _ (by rw[List.length_replicate];omega)
      show ADCall ..
      refine .mk _ _ ((zfl (zaK g x.n).pages (za0 g x.n)).uz) rfl ?_
      show ADCall ..
      refine .mk _ _ ((zim (zaK g x.n).w (za0 g x.n) (ze (zaK g x.n).pages (za0 g x.n)) hkw ⟨hce1,hce2,by omega⟩).uz) rfl ?_
      have hkz:zbo (zK (zaK g x.n).w ((za0 g x.n)-16).toNat (List.replicate (ze (zaK g x.n).pages (za0 g x.n)).toNat (0:Int)))=true:=by unfold zbo at hkw ⊢;rw[hzl];exact hkw
      show ACall ..
      refine za ((zfm (zK (zaK g x.n).w ((za0 g x.n)-16).toNat (List.replicate (ze (zaK g x.n).pages (za0 g x.n)).toNat (0:Int))) (za0 g x.n) (zhO x) hkz (by rw[hzl];omega)).uz) rfl ?_
      have hpw:zhO x=x.word:=znU k5
      rw[hpw]
      obtain⟨t1,t2,t3⟩:=zgY hE
      rw[t1,t2,t3,hE]
      unfold zeJ zjn zvZ
      rw[if_pos h3,if_pos h3,if_pos h3]
      show ARet ..
      exact zi rfl ⟨rfl,rfl⟩
     ·rw[show((zbZ g x.n) != 0)=true by rw[←e0];simpa using hE]
      refine zYE (by decide) ?_
      have eE:zaw g c x=(zbZ g x.n):=e0
      show ACall ..
      refine za ((zeE (zbZ g x.n)).uz) rfl ?_
      have hne:zaw g c x≠0:=by rw[eE];rw[←eE];exact hE
      rw[(zbE hne).1,(zbE hne).2.1,(zbE hne).2.2,eE]
      show ARet ..
      exact zi rfl ⟨rfl,rfl⟩
    ·rw[if_neg h3]at e0
     rw[show(clsOf x.n==3)=false by simpa using h3]
     refine zNO (by decide) ?_
     have hfl:(g.free.at_ (clsOf x.n)).length<=512:=zlH (zcd hm) _
     have hcl:(c.at_ (clsOf x.n)).length<=zk:=zfu hco _
     show ACall ..
     refine .hand [(1408,16)] [(16,.vars (frV g c))] [.c (.ptr 16 0 0),.int (clsOf x.n)] _ (.cons _ _ _ _ (.c _ _ (.ptr _ _ _ _ rfl)) (.cons _ _ _ _ .same .nil)) (.old 16 1408 _ _ _ rfl rfl (.vars _ _ (zb rfl)) .nil) rfl (zrp g c (clsOf x.n) hsh ⟨c3,by omega⟩ hs.2.2.2 hco (by unfold zk;omega) (zhC hlm _)).uz ?_
     rintro H r ⟨rfl,rfl⟩ _ _
     refine⟨rfl,.inl rfl,?_⟩
     show ABr ((zS g c (clsOf x.n)) != 0) _ _
     by_cases hE:zaw g c x=0
     ·rw[show((zS g c (clsOf x.n)) != 0)=false by rw[←e0,hE];rfl]
      refine zNO (by decide) ?_
      have hc:=zeH hE
      unfold zeJ zjn at hc
      rw[if_neg h3,if_neg h3]at hc
      obtain⟨k1,k2,k3,_,k5,_⟩:=hc
      obtain⟨hmw,hmp,hwl,hcl,_,h64⟩:=zl hsh
      have hkw:zbo (zZ g c (clsOf x.n)).w=true:=by unfold zbo at hmw ⊢;rw[k3];exact hmw
      have hce:=zas (zz k1)
      have hce1:16<=(zao g c (clsOf x.n)):=hce.1
      have hce2:0<ze (zZ g c (clsOf x.n)).pages (zao g c (clsOf x.n)):=hce.2.1
      have hce3:(zao g c (clsOf x.n))+ze (zZ g c (clsOf x.n)).pages (zao g c (clsOf x.n))<=16*(((zZ g c (clsOf x.n)).pages.length:Int)+1):=hce.2.2
      have hzl:(zK (zZ g c (clsOf x.n)).w ((zao g c (clsOf x.n))-16).toNat (List.replicate (ze (zZ g c (clsOf x.n)).pages (zao g c (clsOf x.n))).toNat (0:Int))).length=(zZ g c (clsOf x.n)).w.length:=zdy _ _ _ (by rw[List.length_replicate];omega)
      show ADCall ..
      refine .mk _ _ ((zfl (zZ g c (clsOf x.n)).pages (zao g c (clsOf x.n))).uz) rfl ?_
      show ADCall ..
      refine .mk _ _ ((zim (zZ g c (clsOf x.n)).w (zao g c (clsOf x.n)) (ze (zZ g c (clsOf x.n)).pages (zao g c (clsOf x.n))) hkw ⟨hce1,hce2,by omega⟩).uz) rfl ?_
      have hkz:zbo (zK (zZ g c (clsOf x.n)).w ((zao g c (clsOf x.n))-16).toNat (List.replicate (ze (zZ g c (clsOf x.n)).pages (zao g c (clsOf x.n))).toNat (0:Int)))=true:=by unfold zbo at hkw ⊢;rw[hzl];exact hkw
      show ACall ..
      refine za ((zfm (zK (zZ g c (clsOf x.n)).w ((zao g c (clsOf x.n))-16).toNat (List.replicate (ze (zZ g c (clsOf x.n)).pages (zao g c (clsOf x.n))).toNat (0:Int))) (zao g c (clsOf x.n)) (zhO x) hkz (by rw[hzl];omega)).uz) rfl ?_
      have hpw:zhO x=x.word:=znU k5
      rw[hpw]
      obtain⟨t1,t2,t3⟩:=zgY hE
      rw[t1,t2,t3,hE]
      unfold zeJ zjn zvZ
      rw[if_neg h3,if_neg h3,if_neg h3]
      show ARet ..
      exact zi rfl ⟨rfl,rfl⟩
     ·rw[show((zS g c (clsOf x.n)) != 0)=true by rw[←e0];simpa using hE]
      refine zYE (by decide) ?_
      have eE:zaw g c x=(zS g c (clsOf x.n)):=e0
      show ACall ..
      refine za ((zeE (zS g c (clsOf x.n))).uz) rfl ?_
      have hne:zaw g c x≠0:=by rw[eE];rw[←eE];exact hE
      rw[(zbE hne).1,(zbE hne).2.1,(zbE hne).2.2,eE]
      show ARet ..
      exact zi rfl ⟨rfl,rfl⟩
   ·rw[if_pos h2]at e0
    show ABr (zaM x.n != 0) _ _
    rw[show(zaM x.n != 0)=true by simpa using h2]
    refine zYE (by decide) ?_
    have eE:zaw g c x=zaM x.n:=e0
    show ACall ..
    refine za ((zeE (zaM x.n)).uz) rfl ?_
    have hne:zaw g c x≠0:=by rw[eE];exact h2
    rw[(zbE hne).1,(zbE hne).2.1,(zbE hne).2.2,eE]
    show ARet ..
    exact zi rfl ⟨rfl,rfl⟩
def zfF (g:Hp) (c:Lists):Hp:={g with free:=⟨g.free.l0++c.l0,g.free.l1++c.l1,g.free.l2++c.l2⟩}
def zhJ (g:Hp) (i:Nat):Hp:=if (g.pages.getD i default).kind=1 then zcb g (i:Int) else g
def zdS (g:Hp):Nat->Hp
 |0=>g
 |n+1=>zhJ (zdS g n) n
def zda (g:Hp) (c:Lists):Hp:=if zx g [c]=true then zdS (zfF g c) g.pages.length else Hp.zero
def zwg (g:Hp) (c:Lists):Int:=if zx g [c]=true then 0 else 1
theorem zxB (g:Hp) (c:Lists) (k:Int):(zfF g c).free.at_ k=g.free.at_ k++c.at_ k:=by
 unfold Lists.at_ zfF
 split
 ·rfl
 ·split<;>rfl
theorem zux (g:Hp) (c:Lists) (cs:List Lists):(zn ((zfF g c).free::cs)).Perm (zn (g.free::c::cs)):=by
 have e1:zn ((zfF g c).free::cs)=((g.free.l0++c.l0)++(g.free.l1++c.l1)++(g.free.l2++c.l2))++zn cs:=rfl
 have e2:zn (g.free::c::cs)=(g.free.l0++g.free.l1++g.free.l2)++((c.l0++c.l1++c.l2)++zn cs):=rfl
 rw[e1,e2,List.perm_iff_count]
 intro a
 simp only[List.count_append]
 omega
theorem zlK {g:Hp} {c:Lists} {cs:List Lists} (hm:zx g (c::cs)=true):zx (zfF g c) cs=true/\(zq g (c::cs)=true->zq (zfF g c) cs=true):=by
 obtain⟨m1,m2,m3,m4⟩:=zai hm
 have hp:=zux g c cs
 have hmay:zx (zfF g c) cs=true:=by
  refine zdr m1 (fun l hl=>?_) m3 (hp.nodup_iff.2 m4)
  rcases List.mem_cons.1 hl with rfl|hl
  ·refine zF.2 fun d d0 d2 x hx=>?_
   rw[zxB]at hx
   rcases List.mem_append.1 hx with hx|hx
   ·exact zF.1 (m2 g.free (List.mem_cons_self ..)) d d0 d2 x hx
   ·exact zF.1 (m2 c (List.mem_cons_of_mem _ (List.mem_cons_self ..))) d d0 d2 x hx
  ·exact m2 l (List.mem_cons_of_mem _ (List.mem_cons_of_mem _ hl))
 refine⟨hmay,fun hw=>?_⟩
 unfold zq at hw ⊢
 rw[hmay,Bool.true_and]
 rw[hm,Bool.true_and]at hw
 rw[List.all_eq_true]at hw ⊢
 intro u hu
 have:=hw u hu
 rw[Bool.or_eq_true]at this ⊢
 rcases this with k|k
 ·exact .inl k
 ·exact .inr (List.contains_iff_mem.2 (hp.mem_iff.2 (List.contains_iff_mem.1 k)))
theorem zeX {l:List Page} (hm:zar l=true) {i:Nat} (hi:i<l.length) (hk:(l.getD i default).kind=1):Drops l i:=⟨hm,hi,.inl hk⟩
structure Backed (g k:Hp) (cs:List Lists):Prop where
 may:zx k cs=true
 whole:zq g cs=true->zq k cs=true
 used:zu k=zu g
 cards:k.cards=g.cards
 w:k.w=g.w
 plen:k.pages.length=g.pages.length
 room:∀u,ze k.pages u≠0->ze k.pages u=ze g.pages u
theorem zpW {g:Hp} {cs:List Lists} (hm:zx g cs=true) {i:Nat} (hi:i<g.pages.length):Backed g (zhJ g i) cs:=by
 unfold zhJ
 split
 ·rename_i hk
  obtain⟨b1,b2,b3,b4,b5,b6,b7,_⟩:=zlr hm (i:=(i:Int)) (by omega) (zeX (zl (zA hm)).2.1 hi hk) hk
  exact⟨b1,b2,b3,b4,b5,b6,b7⟩
 ·exact⟨hm,id,rfl,rfl,rfl,rfl,fun _ _=>rfl⟩
theorem Backed.trans {g k m:Hp} {cs:List Lists} (h:Backed g k cs) (h' : Backed k m cs):Backed g m cs:=
 ⟨h'.may,fun q=>h'.whole (h.whole q),h'.used.trans h.used,h'.cards.trans h.cards,h'.w.trans h.w,h'.plen.trans h.plen,fun u hu=>by
  have e:=h'.room u hu
  rw[e]
  exact h.room u (by rw[←e];exact hu)⟩
theorem zfV {g:Hp} {cs:List Lists} (hm:zx g cs=true):∀n,n<=g.pages.length->Backed g (zdS g n) cs
 |0,_=>⟨hm,id,rfl,rfl,rfl,rfl,fun _ _=>rfl⟩
 |n+1,hn=>by
  have h:=zfV hm n (by omega)
  exact h.trans (zpW h.may (by rw[h.plen];omega))
theorem zqw (g:Hp) (i:Nat) (hi:i<g.pages.length) (hk:(g.pages.getD i default).kind≠1):Spec X 241 [(16,.vars (rkV g))] [.c (.ptr 16 0 0),.int (i:Int)] (fun H r=>H=[(16,.vars (rkV g))]/\r = .tup []):=by
 refine zGO X_ok Tryz.f241 fun hb hH=>⟨rfl,?_⟩
 show AOb ((0:Int)<=(i:Int)/\(i:Int)<(g.pages.length:Int)) _
 refine⟨by omega,?_⟩
 show ABr ((g.pages.getD i default).kind != 1) _ _
 rw[show((g.pages.getD i default).kind != 1)=true by simpa using hk]
 refine zYE (by decide) ?_
 show ARet ..
 exact⟨[(16,16)],[(16,.vars (rkV g))],[],.nil,.old 16 16 _ _ _ rfl rfl (.vars _ _ (zb rfl)) .nil,rfl,rfl,rfl⟩
theorem zp5 (g:Hp) (i:Nat) (hm:zar g.pages=true) (hi:i<g.pages.length) (hok:g.free.ok):Spec X 241 [(16,.vars (rkV g))] [.c (.ptr 16 0 0),.int (i:Int)] (fun H r=>H=[(16,.vars (rkV (zhJ g i)))]/\r = .tup []):=by
 unfold zhJ
 by_cases hk:(g.pages.getD i default).kind=1
 ·rw[if_pos hk]
  exact zmr g (i:Int) (by omega) (zeX hm hi hk) hk hok
 ·rw[if_neg hk]
  exact zqw g i hi hk
theorem zxf {g:Hp} (h:zx g []=true):g.free.ok:=by
 have e0:=zlH h 0
 have e1:=zlH h 1
 have e2:=zlH h 2
 have e0:g.free.l0.length<=512:=e0
 have e1:g.free.l1.length<=512:=e1
 have e2:g.free.l2.length<=512:=e2
 refine⟨?_,?_,?_⟩<;>unfold zk<;>omega
set_option maxRecDepth 60000 in
set_option maxHeartbeats 4000000 in
theorem zsa (g:Hp) (c:Lists) (hs:g.small) (hlm:(zn (zeL g [c])).length<=zk):Spec X 202 [] [g.tv,c.tv] (Ret [] (.tup [(zda g c).tv,.int (zwg g c)])):=by
 refine Spec.fz (zGO zmN Tryz.f202 fun hb hH=>⟨rfl,?_⟩)
 show ACall ..
 refine za ((zeg g [c] hlm (by unfold zk;simp)).uz) rfl ?_
 unfold zda zwg
 cases hm:zx g [c] with
 |false=>
  rw[if_neg (by decide),if_neg (by decide)]
  refine zYE (by decide) ?_
  show ARet ..
  exact⟨[],[],[Hp.zero.tv,.int 1],.cons _ _ _ _ (.agg _ _ (.cons _ _ _ _ (.nilsl .int) (.cons _ _ _ _ (.nilsl .page) (.cons _ _ _ _ (.nilsl .int) (.cons _ _ _ _ (.nilsl .int) (.cons _ _ _ _ (.nilsl .int) (.cons _ _ _ _ (.nilsl .bool) .nil))))))) (.cons _ _ _ _ .same .nil),.nil,rfl,rfl,rfl⟩
 |true=>
  rw[if_pos rfl,if_pos rfl]
  refine zNO (by decide) ?_
  have hpm:=(zlK hm).1
  have hpk:=zxf hpm
  have hmp:=(zl (zA hm)).2.1
  have h64:=(zab hmp).2.2
  have s0:=zhC hlm 0
  have s1:=zhC hlm 1
  have s2:=zhC hlm 2
  have o1:(g.free.set_ 0 (g.free.at_ 0++c.at_ 0)).ok:=ze7 hs.2.2.2 (by rw[List.length_append];omega)
  have o2:((g.free.set_ 0 (g.free.at_ 0++c.at_ 0)).set_ 1 (g.free.at_ 1++c.at_ 1)).ok:=ze7 o1 (by rw[List.length_append];omega)
  show ACall ..
  refine .mk _ (zlp g hs).uz fun H r ⟨eH,er⟩ _ _=>⟨.inl rfl,?_⟩
  subst eH er
  show ∃n,_
  refine⟨4,?_⟩
  show ALoop ..
  refine .next ?_
  refine zYE (by decide) ?_
  show AOb ..
  refine⟨by decide,?_⟩
  show ACall ..
  refine za ((zfE g.free 0 c.l0 ⟨by decide,by decide⟩ hs.2.2.2 s0).uz) rfl ?_
  show ALoop ..
  refine .next ?_
  refine zYE (by decide) ?_
  show AOb ..
  refine⟨by decide,?_⟩
  show ACall ..
  refine za ((zfE (g.free.set_ 0 (g.free.at_ 0++c.at_ 0)) 1 c.l1 ⟨by decide,by decide⟩ o1 s1).uz) rfl ?_
  show ALoop ..
  refine .next ?_
  refine zYE (by decide) ?_
  show AOb ..
  refine⟨by decide,?_⟩
  show ACall ..
  refine za ((zfE ((g.free.set_ 0 (g.free.at_ 0++c.at_ 0)).set_ 1 (g.free.at_ 1++c.at_ 1)) 2 c.l2 ⟨by decide,by decide⟩ o2 s2).uz) rfl ?_
  show ALoop ..
  refine .next ?_
  refine zNO (by decide) ?_
  show ∃n,_
  refine⟨0,ALoop.inv (ι:={j:Nat // j<=g.pages.length}) (fun q=>⟨[(4,.c (.ptr 0 0 0)),(5,.int (0)),(6,.c (.ptr 1 0 0)),(44,.int ((g.pages.length:Int))),(45,.int ((q.1:Int)))],[(0,.vars [.d .nilsl,.d .nilsl,.d .nilsl,.d .nilsl,.d .nilsl,.d .nilsl]),(1,.vars (rkV (zdS (zfF g c) q.1)))],96⟩) (fun q=>g.pages.length-q.1) ⟨0,Nat.zero_le _⟩ ?_ ?_⟩
  ·exact⟨[(96,0),(352,1)],(by repeat' first|exact .nil|refine .cons _ _ _ ?_ ?_|exact .same|exact .c _ _ (.own _ _ rfl)|exact .c _ _ (.ptr _ _ _ _ rfl)|exact .c _ _ (.frz _ _ rfl)|exact .any _),(by exact .old 0 96 _ _ _ rfl rfl (.vars _ _ (zb rfl)) (.old 1 352 _ _ _ rfl rfl (.vars _ _ (zb rfl)) .nil)),(by rfl)⟩
  rintro⟨j,hj⟩
  have hj:j<=g.pages.length:=hj
  have bk:=zfV hpm j hj
  have hjp:(zdS (zfF g c) j).pages.length=g.pages.length:=bk.plen
  show ABr (decide ((j:Int)<(g.pages.length:Int))) _ _
  refine⟨fun h=>?_,fun h=>?_⟩
  ·have hjl:j<g.pages.length:=by have:=of_decide_eq_true h;omega
   have wj:IntKind.i64.wrap ((j:Int)+1)=((j+1:Nat):Int):=zad (i:=j) (by unfold zE;omega)
   show ACall ..
   refine .hand [(1,16)] [(16,.vars (rkV (zdS (zfF g c) j)))] [.c (.ptr 16 0 0),.int (j:Int)] _ (.cons _ _ _ _ (.c _ _ (.ptr _ _ _ _ rfl)) (.cons _ _ _ _ .same .nil)) (.old 16 1 _ _ _ rfl rfl (.vars _ _ (zb rfl)) .nil) rfl (zp5 (zdS (zfF g c) j) j (zl (zA bk.may)).2.1 (by rw[hjp];exact hjl) (zxf bk.may)).uz ?_
   rintro H r ⟨rfl,rfl⟩ _ _
   refine⟨rfl,.inl rfl,?_⟩
   show ARound ..
   exact⟨⟨j+1,hjl⟩,(by dsimp only;omega),[(0,0),(1,1)],(by repeat' first|exact .nil|refine .cons _ _ _ ?_ ?_|exact .int_eq wj|exact .same|exact .c _ _ (.own _ _ rfl)|exact .c _ _ (.ptr _ _ _ _ rfl)|exact .c _ _ (.frz _ _ rfl)|exact .any _),(by exact .old 0 0 _ _ _ rfl rfl (.vars _ _ (zb rfl)) (.old 1 1 _ _ _ rfl rfl (.vars _ _ (zb rfl)) .nil)),(by rfl)⟩
  ·have hjl:j=g.pages.length:=by have:=of_decide_eq_false h;omega
   subst hjl
   show ARet ..
   exact zi rfl ⟨rfl,rfl⟩
theorem zhu (a b c:Int):Spec X 109 [] [.int a,.int b,.int c] (Ret [] (.bo (decide (a>=b)&&decide (a<=c)))):=by
 refine zGO X_ok Tryz.f109 fun _ _=>⟨rfl,?_⟩
 show ARet ..
 refine zt ?_ ⟨rfl,rfl⟩
 cases decide (a>=b)<;>rfl
def Thread.reg (t:Thread) (r:Int):Int:=if r=0 then t.r0 else if r=1 then t.r1 else if r=2 then t.r2 else t.r3
def Thread.setReg (t:Thread) (r a:Int):Thread:=if r=0 then {t with r0:=a} else if r=1 then {t with r1:=a} else if r=2 then {t with r2:=a} else {t with r3:=a}
theorem zlG (t:Thread) (r:Int) (h:0<=r/\r<=3):Spec X 182 [] [t.tv,.int r] (Ret [] (.tup [.int (t.reg r),.int 0])):=by
 refine zGO X_ok Tryz.f182 fun _ _=>⟨rfl,?_⟩
 have hr:r=0\/r=1\/r=2\/r=3:=by omega
 rcases hr with rfl|rfl|rfl|rfl <;>
 ·show ACall ..
  refine za (zhu _ _ _) rfl ?_
  show ABr ..
  refine⟨fun hb=>absurd hb (by decide),fun _=>?_⟩
  show AOb ..
  refine⟨by decide,?_⟩
  show ARet ..
  exact zi rfl ⟨rfl,rfl⟩
theorem zoK (t:Thread) (r:Int) (h:¬(0<=r/\r<=3)):Spec X 182 [] [t.tv,.int r] (Ret [] (.tup [.int 0,.int 1])):=by
 refine zGO X_ok Tryz.f182 fun _ _=>⟨rfl,?_⟩
 show ACall ..
 refine za (zhu _ _ _) rfl ?_
 show ABr ..
 refine⟨fun hb=>?_,fun(hb:(!(decide (r>=0)&&decide (r<=3)))=false)=>absurd hb (by simp;omega)⟩
 show ARet ..
 exact zi rfl ⟨rfl,rfl⟩
def Thread.ok (t:Thread):Prop:=t.ops.length<=zk/\t.cache.l0.length<=zk/\t.cache.l1.length<=zk/\t.cache.l2.length<=zk
theorem zv0 (t:Thread) (h:t.ok):Spec X 252 [] [t.tv] (Ret [] t.tv):=by
 refine zGO X_ok Tryz.f252 fun _ _=>⟨rfl,?_⟩
 show ACall ..
 refine za (zck t.ops h.1) rfl ?_
 show ∃n,_
 refine⟨4,.next ?_⟩
 show ABr ..
 refine⟨fun _=>?_,fun hb=>absurd hb (by decide)⟩
 show AOb ..
 refine⟨by decide,?_⟩
 show ACall ..
 refine za (zd t.cache.l0 h.2.1) rfl ?_
 show AOb ..
 refine⟨by decide,?_⟩
 show ALoop ..
 refine .next ?_
 show ABr ..
 refine⟨fun _=>?_,fun hb=>absurd hb (by decide)⟩
 show AOb ..
 refine⟨by decide,?_⟩
 show ACall ..
 refine za (zd t.cache.l1 h.2.2.1) rfl ?_
 show AOb ..
 refine⟨by decide,?_⟩
 show ALoop ..
 refine .next ?_
 show ABr ..
 refine⟨fun _=>?_,fun hb=>absurd hb (by decide)⟩
 show AOb ..
 refine⟨by decide,?_⟩
 show ACall ..
 refine za (zd t.cache.l2 h.2.2.2) rfl ?_
 show AOb ..
 refine⟨by decide,?_⟩
 show ALoop ..
 refine .next ?_
 show ABr ..
 refine⟨fun hb=>absurd hb (by decide),fun _=>?_⟩
 show ARet ..
 exact zi rfl ⟨rfl,rfl⟩
theorem zxo (t:Thread) (r a:Int) (h:t.ok) (hr:0<=r/\r<=3):Spec X 229 [] [t.tv,.int r,.int a] (Ret [] (.tup [(t.setReg r a).tv,.int 0])):=by
 refine zGO X_ok Tryz.f229 fun _ _=>⟨rfl,?_⟩
 have hr' : r=0\/r=1\/r=2\/r=3:=by omega
 rcases hr' with rfl|rfl|rfl|rfl <;>
 ·show ACall ..
  refine za (zlG t _ (by decide)) rfl ?_
  show ABr ..
  refine⟨fun hb=>absurd hb (by decide),fun _=>?_⟩
  show ACall ..
  refine za (zv0 t h) rfl ?_
  show AOb ..
  refine⟨by decide,?_⟩
  show ARet ..
  exact zi rfl ⟨rfl,rfl⟩
def Thread.zero:Thread:=⟨false,0,0,0,0,⟨[],[],[]⟩,0,0,0,[],0,0,0⟩
theorem zmX (t:Thread):Spec X 70 [] [t.tv] (Ret [] (.bo (decide (0<=t.stage/\t.stage<=3/\0<=t.root/\t.root<=3/\0<=t.pc/\t.pc<=4/\(t.ops.length:Int)<=200/\(t.pc=0\/0<(t.ops.length:Int)))))):=by
 refine zGO X_ok Tryz.f70 fun _ _=>⟨rfl,?_⟩
 show ACall ..
 refine za (zhu _ _ _) rfl ?_
 show AIf ((!(decide (t.stage>=0)&&decide (t.stage<=3)))=false/\True) _ _
 refine⟨fun h1=>?_,fun h1=>?_⟩
 ·show ACall ..
  refine za (zhu _ _ _) rfl ?_
  show AIf ((!(decide (t.root>=0)&&decide (t.root<=3)))=false/\True) _ _
  refine⟨fun h2=>?_,fun h2=>?_⟩
  ·show ACall ..
   refine za (zhu _ _ _) rfl ?_
   show ABr (!(decide (t.pc>=0)&&decide (t.pc<=4))) _ _
   refine⟨fun h3=>?_,fun h3=>?_⟩
   ·show ARet ..
    refine zt (y:=decide (0<=t.stage/\t.stage<=3/\0<=t.root/\t.root<=3/\0<=t.pc/\t.pc<=4/\(t.ops.length:Int)<=200/\(t.pc=0\/0<(t.ops.length:Int)))) ?_ ⟨rfl,rfl⟩
    simp at h1 h2 h3 ⊢
    omega
   ·show ARet ..
    refine zt (x:=bif decide ((t.ops.length:Int)<=200) then (bif decide (t.pc=0) then true else decide ((t.ops.length:Int)>0)) else false) ?_ ⟨rfl,rfl⟩
    simp at h1 h2 h3
    simp[h1,h2,h3]
  ·show AOb ((!(decide (t.root>=0)&&decide (t.root<=3)))=true) _
   refine⟨by simp at h2 ⊢;omega,?_⟩
   show ABr true _ _
   refine⟨fun _=>?_,fun h=>absurd h (by simp)⟩
   show ARet ..
   refine zt ?_ ⟨rfl,rfl⟩
   simp at h1 h2 ⊢
   omega
 ·show AOb ..
  refine⟨by simp at h1 ⊢;omega,?_⟩
  show AIf (true=false/\True) _ _
  refine⟨fun h=>absurd h.1 (by simp),fun _=>?_⟩
  show AOb (true=true) _
  refine⟨rfl,?_⟩
  refine zYE (by simp) ?_
  show ARet ..
  refine zt ?_ ⟨rfl,rfl⟩
  simp at h1 ⊢
  omega
theorem zsS (c:Col) (t:Thread):Spec X 259 [] [c.tv,t.tv] (Ret [] (.bo (decide (t.epoch=c.epoch/\1<=c.phase/\c.phase<=5)))):=by
 refine zGO X_ok Tryz.f259 fun _ _=>⟨rfl,?_⟩
 show AIf (decide (t.epoch=c.epoch)=true/\True) _ _
 refine⟨fun h1=>?_,fun h1=>?_⟩
 ·show ACall ..
  refine za (zhu _ _ _) rfl ?_
  show ARet ..
  refine zt (x:=decide (c.phase>=1)&&decide (c.phase<=5)) ?_ ⟨rfl,rfl⟩
  simp at h1
  simp[h1]
 ·show AOb (decide (t.epoch=c.epoch)=false) _
  refine⟨by simpa using h1,?_⟩
  show ARet ..
  refine zt (x:=false) ?_ ⟨rfl,rfl⟩
  simp at h1
  simp[h1]
theorem zsj (c:Col) (t:Thread):Spec X 235 [] [c.tv,t.tv] (Ret [] (.bo (decide (t.epoch=c.epoch/\t.stage=3/\c.phase≠0)))):=by
 refine zGO X_ok Tryz.f235 fun _ _=>⟨rfl,?_⟩
 show ARet ..
 refine zt (x:=bif (bif decide (t.epoch=c.epoch) then decide (t.stage=3) else false) then !decide (c.phase=0) else false) ?_ ⟨rfl,rfl⟩
 by_cases h1:t.epoch=c.epoch<;>by_cases h2:t.stage=3<;>simp[h1,h2]
def Thread.six (t:Thread):List Int:=[t.r0,t.r1,t.r2,t.r3,t.x,t.y]
def Thread.acc (t:Thread) (i:Nat):List Int:=(t.six.take i).filter fun a=>decide (a≠0)
theorem Thread.acc_len (t:Thread) (i:Nat):(t.acc i).length<=6:=
 Nat.le_trans (List.length_filter_le _ _) (by simp[Thread.six];omega)
theorem Thread.acc_step (t:Thread) (i:Nat) {a:Int} (h:t.six[i]? = some a):t.acc (i+1)=if a=0 then t.acc i else t.acc i++[a]:=by
 unfold Thread.acc
 rw[List.take_add_one,h,List.filter_append]
 by_cases ha:a=0<;>simp[ha]
theorem Thread.acc_most (t:Thread) (i:Nat):(t.acc i).length+1<=zk:=by
 have:=t.acc_len i
 unfold zk
 omega
theorem zsh (t:Thread):Spec X 88 [] [t.tv] (Ret [] (.c (.d (.sl .int (t.acc 6))))):=by
 refine zGO X_ok Tryz.f88 fun _ _=>⟨rfl,?_⟩
 show ∃n,_
 refine⟨0,ALoop.inv (ι:={i:Nat // i<=6}) (fun i=>⟨[(3,.c (.own 1)),(1,.c (.ptr 0 0 0)),(6,.int i.1)],[(0,.vars ((EK.enc .thread t).map .d)),(1,.data .int (t.acc i.1))],32⟩) (fun i=>6-i.1) ⟨0,by simp⟩ ?_ ?_⟩
 ·exact⟨[(32,0)],.cons _ _ _ (.c _ _ (.nilown 1 .int rfl rfl)) (.cons _ _ _ (.c _ _ (.ptr _ _ _ _ rfl)) (.cons _ _ _ .same .nil)),.old 0 32 _ _ _ rfl rfl (.vars _ _ (zb rfl)) (.new 1 .int _ rfl .nil),rfl⟩
 ·rintro⟨i,hi⟩
  have hc:i=0\/i=1\/i=2\/i=3\/i=4\/i=5\/i=6:=by omega
  rcases hc with rfl|rfl|rfl|rfl|rfl|rfl|rfl
  ·refine zYE (by simp) ?_
   refine zYE (by simp) ?_
   show AOb ..
   refine⟨by simp,?_⟩
   show ABr (t.r0 != 0) _ _
   refine⟨fun h=>?_,fun h=>?_⟩
   ·have h0:t.r0≠0:=by simpa using h
    show AOb ((t.acc 0).length+1<=zk) _
    refine⟨t.acc_most 0,?_⟩
    show ARound ..
    refine⟨⟨1,by decide⟩,by simp,[(_,1),(0,0)],.cons _ _ _ (.c _ _ (.own1 _ _)) (.cons _ _ _ (.c _ _ (.ptr _ _ _ _ rfl)) (.cons _ _ _ .same .nil)),.old 0 0 _ _ _ rfl rfl (.vars _ _ (zb rfl)) (.old 1 _ _ _ _ rfl rfl (.data_eq ?_) .nil),rfl⟩
    show t.acc 0++[t.r0]=t.acc 1
    rw[t.acc_step 0 rfl,if_neg h0]
   ·have h0:t.r0=0:=by simpa using h
    show ARound ..
    refine⟨⟨1,by decide⟩,by simp,[(1,1),(0,0)],.cons _ _ _ (.c _ _ (.own1 _ _)) (.cons _ _ _ (.c _ _ (.ptr _ _ _ _ rfl)) (.cons _ _ _ .same .nil)),.old 0 0 _ _ _ rfl rfl (.vars _ _ (zb rfl)) (.old 1 _ _ _ _ rfl rfl (.data_eq ?_) .nil),rfl⟩
    show t.acc 0=t.acc 1
    rw[t.acc_step 0 rfl,if_pos h0]
  ·refine zYE (by simp) ?_
   refine zYE (by simp) ?_
   show AOb ..
   refine⟨by simp,?_⟩
   show ABr (t.r1 != 0) _ _
   refine⟨fun h=>?_,fun h=>?_⟩
   ·have h0:t.r1≠0:=by simpa using h
    show AOb ((t.acc 1).length+1<=zk) _
    refine⟨t.acc_most 1,?_⟩
    show ARound ..
    refine⟨⟨2,by decide⟩,by simp,[(_,1),(0,0)],.cons _ _ _ (.c _ _ (.own1 _ _)) (.cons _ _ _ (.c _ _ (.ptr _ _ _ _ rfl)) (.cons _ _ _ .same .nil)),.old 0 0 _ _ _ rfl rfl (.vars _ _ (zb rfl)) (.old 1 _ _ _ _ rfl rfl (.data_eq ?_) .nil),rfl⟩
    show t.acc 1++[t.r1]=t.acc 2
    rw[t.acc_step 1 rfl,if_neg h0]
   ·have h0:t.r1=0:=by simpa using h
    show ARound ..
    refine⟨⟨2,by decide⟩,by simp,[(1,1),(0,0)],.cons _ _ _ (.c _ _ (.own1 _ _)) (.cons _ _ _ (.c _ _ (.ptr _ _ _ _ rfl)) (.cons _ _ _ .same .nil)),.old 0 0 _ _ _ rfl rfl (.vars _ _ (zb rfl)) (.old 1 _ _ _ _ rfl rfl (.data_eq ?_) .nil),rfl⟩
    show t.acc 1=t.acc 2
    rw[t.acc_step 1 rfl,if_pos h0]
  ·refine zYE (by simp) ?_
   refine zYE (by simp) ?_
   show AOb ..
   refine⟨by simp,?_⟩
   show ABr (t.r2 != 0) _ _
   refine⟨fun h=>?_,fun h=>?_⟩
   ·have h0:t.r2≠0:=by simpa using h
    show AOb ((t.acc 2).length+1<=zk) _
    refine⟨t.acc_most 2,?_⟩
    show ARound ..
    refine⟨⟨3,by decide⟩,by simp,[(_,1),(0,0)],.cons _ _ _ (.c _ _ (.own1 _ _)) (.cons _ _ _ (.c _ _ (.ptr _ _ _ _ rfl)) (.cons _ _ _ .same .nil)),.old 0 0 _ _ _ rfl rfl (.vars _ _ (zb rfl)) (.old 1 _ _ _ _ rfl rfl (.data_eq ?_) .nil),rfl⟩
    show t.acc 2++[t.r2]=t.acc 3
    rw[t.acc_step 2 rfl,if_neg h0]
   ·have h0:t.r2=0:=by simpa using h
    show ARound ..
    refine⟨⟨3,by decide⟩,by simp,[(1,1),(0,0)],.cons _ _ _ (.c _ _ (.own1 _ _)) (.cons _ _ _ (.c _ _ (.ptr _ _ _ _ rfl)) (.cons _ _ _ .same .nil)),.old 0 0 _ _ _ rfl rfl (.vars _ _ (zb rfl)) (.old 1 _ _ _ _ rfl rfl (.data_eq ?_) .nil),rfl⟩
    show t.acc 2=t.acc 3
    rw[t.acc_step 2 rfl,if_pos h0]
  ·refine zYE (by simp) ?_
   refine zYE (by simp) ?_
   show AOb ..
   refine⟨by simp,?_⟩
   show ABr (t.r3 != 0) _ _
   refine⟨fun h=>?_,fun h=>?_⟩
   ·have h0:t.r3≠0:=by simpa using h
    show AOb ((t.acc 3).length+1<=zk) _
    refine⟨t.acc_most 3,?_⟩
    show ARound ..
    refine⟨⟨4,by decide⟩,by simp,[(_,1),(0,0)],.cons _ _ _ (.c _ _ (.own1 _ _)) (.cons _ _ _ (.c _ _ (.ptr _ _ _ _ rfl)) (.cons _ _ _ .same .nil)),.old 0 0 _ _ _ rfl rfl (.vars _ _ (zb rfl)) (.old 1 _ _ _ _ rfl rfl (.data_eq ?_) .nil),rfl⟩
    show t.acc 3++[t.r3]=t.acc 4
    rw[t.acc_step 3 rfl,if_neg h0]
   ·have h0:t.r3=0:=by simpa using h
    show ARound ..
    refine⟨⟨4,by decide⟩,by simp,[(1,1),(0,0)],.cons _ _ _ (.c _ _ (.own1 _ _)) (.cons _ _ _ (.c _ _ (.ptr _ _ _ _ rfl)) (.cons _ _ _ .same .nil)),.old 0 0 _ _ _ rfl rfl (.vars _ _ (zb rfl)) (.old 1 _ _ _ _ rfl rfl (.data_eq ?_) .nil),rfl⟩
    show t.acc 3=t.acc 4
    rw[t.acc_step 3 rfl,if_pos h0]
  ·refine zYE (by simp) ?_
   refine zNO (by simp) ?_
   refine zNO (by simp) ?_
   show ABr (t.x != 0) _ _
   refine⟨fun h=>?_,fun h=>?_⟩
   ·have h0:t.x≠0:=by simpa using h
    show AOb ((t.acc 4).length+1<=zk) _
    refine⟨t.acc_most 4,?_⟩
    show ARound ..
    refine⟨⟨5,by decide⟩,by simp,[(_,1),(0,0)],.cons _ _ _ (.c _ _ (.own1 _ _)) (.cons _ _ _ (.c _ _ (.ptr _ _ _ _ rfl)) (.cons _ _ _ .same .nil)),.old 0 0 _ _ _ rfl rfl (.vars _ _ (zb rfl)) (.old 1 _ _ _ _ rfl rfl (.data_eq ?_) .nil),rfl⟩
    show t.acc 4++[t.x]=t.acc 5
    rw[t.acc_step 4 rfl,if_neg h0]
   ·have h0:t.x=0:=by simpa using h
    show ARound ..
    refine⟨⟨5,by decide⟩,by simp,[(1,1),(0,0)],.cons _ _ _ (.c _ _ (.own1 _ _)) (.cons _ _ _ (.c _ _ (.ptr _ _ _ _ rfl)) (.cons _ _ _ .same .nil)),.old 0 0 _ _ _ rfl rfl (.vars _ _ (zb rfl)) (.old 1 _ _ _ _ rfl rfl (.data_eq ?_) .nil),rfl⟩
    show t.acc 4=t.acc 5
    rw[t.acc_step 4 rfl,if_pos h0]
  ·refine zYE (by simp) ?_
   refine zNO (by simp) ?_
   refine zYE (by simp) ?_
   show ABr (t.y != 0) _ _
   refine⟨fun h=>?_,fun h=>?_⟩
   ·have h0:t.y≠0:=by simpa using h
    show AOb ((t.acc 5).length+1<=zk) _
    refine⟨t.acc_most 5,?_⟩
    show ARound ..
    refine⟨⟨6,by decide⟩,by simp,[(_,1),(0,0)],.cons _ _ _ (.c _ _ (.own1 _ _)) (.cons _ _ _ (.c _ _ (.ptr _ _ _ _ rfl)) (.cons _ _ _ .same .nil)),.old 0 0 _ _ _ rfl rfl (.vars _ _ (zb rfl)) (.old 1 _ _ _ _ rfl rfl (.data_eq ?_) .nil),rfl⟩
    show t.acc 5++[t.y]=t.acc 6
    rw[t.acc_step 5 rfl,if_neg h0]
   ·have h0:t.y=0:=by simpa using h
    show ARound ..
    refine⟨⟨6,by decide⟩,by simp,[(1,1),(0,0)],.cons _ _ _ (.c _ _ (.own1 _ _)) (.cons _ _ _ (.c _ _ (.ptr _ _ _ _ rfl)) (.cons _ _ _ .same .nil)),.old 0 0 _ _ _ rfl rfl (.vars _ _ (zb rfl)) (.old 1 _ _ _ _ rfl rfl (.data_eq ?_) .nil),rfl⟩
    show t.acc 5=t.acc 6
    rw[t.acc_step 5 rfl,if_pos h0]
  ·refine zNO (by simp) ?_
   show ARet ..
   exact zgL (.frz rfl rfl) ⟨rfl,rfl⟩
def zd0 (g:Hp) (t:Thread) (r:Int):Int:=if 0<=r/\r<=3 then (if headE g (t.reg r)=0 then 0 else 5) else 1
def zfh (g:Hp) (t:Thread) (r:Int):Int:=if 0<=r/\r<=3 then (if headE g (t.reg r)=0 then t.reg r else 0) else 0
def zfy (g:Hp) (t:Thread) (r:Int):Int:=if 0<=r/\r<=3 then (if headE g (t.reg r)=0 then (headH g (t.reg r)).n else 0) else 0
theorem zkQ (g:Hp) (t:Thread) (r:Int) (hl:g.light):Spec X 200 [] [g.tv,t.tv,.int r] (Ret [] (.tup [.int (zfh g t r),.int (zfy g t r),.int (zd0 g t r)])):=by
 refine zGO X_ok Tryz.f200 fun hb hH=>⟨rfl,?_⟩
 unfold zfh zfy zd0
 by_cases h:0<=r/\r<=3
 ·rw[if_pos h,if_pos h,if_pos h]
  show ACall ..
  refine za (zlG t r h) rfl ?_
  refine zNO (by decide) ?_
  show ACall ..
  refine za (zaJ g (t.reg r) hl) rfl ?_
  by_cases h0:headE g (t.reg r)=0
  ·rw[if_pos h0,if_pos h0,if_pos h0,h0]
   refine zNO (by decide) ?_
   show ARet ..
   exact zi rfl ⟨rfl,rfl⟩
  ·rw[if_neg h0,if_neg h0,if_neg h0]
   show ABr ..
   refine⟨fun _=>?_,fun h=>absurd h (by simpa using h0)⟩
   show ARet ..
   exact zi rfl ⟨rfl,rfl⟩
 ·rw[if_neg h,if_neg h,if_neg h]
  show ACall ..
  refine za (zoK t r h) rfl ?_
  refine zYE (by decide) ?_
  show ARet ..
  exact zi rfl ⟨rfl,rfl⟩
theorem zxA (t:Thread) (r a:Int) (h:¬(0<=r/\r<=3)):Spec X 229 [] [t.tv,.int r,.int a] (Ret [] (.tup [Thread.zero.tv,.int 1])):=by
 refine zGO X_ok Tryz.f229 fun _ _=>⟨rfl,?_⟩
 show ACall ..
 refine za (zoK t r h) rfl ?_
 show ABr ..
 refine⟨fun hb=>?_,fun hb=>absurd hb (by decide)⟩
 show ARet ..
 refine⟨[],[],[Thread.zero.tv,.int 1],.cons _ _ _ _ (.agg _ _ ?_) (.cons _ _ _ _ .same .nil),.nil,rfl,⟨rfl,rfl⟩⟩
 repeat (first|exact .nil|refine .cons _ _ _ _ (.d _) ?_|refine .cons _ _ _ _ (.nilsl _) ?_)
def zxZ (t:Thread) (r:Int):Int:=if 0<=r/\r<=3 then t.reg r else 0
def zbd (r:Int):Int:=if 0<=r/\r<=3 then 0 else 1
theorem znJ (t:Thread) (r:Int):Spec X 182 [] [t.tv,.int r] (Ret [] (.tup [.int (zxZ t r),.int (zbd r)])):=by
 unfold zxZ zbd
 by_cases h:0<=r/\r<=3
 ·rw[if_pos h,if_pos h];exact zlG t r h
 ·rw[if_neg h,if_neg h];exact zoK t r h
theorem znB {α:Type} [Inhabited α] {a b:List α} (hl:a.length=b.length) (h:∀j,j<a.length->a.getD j default=b.getD j default):a=b:=by
 apply List.ext_getElem hl
 intro i h1 h2
 have:=h i h1
 rw[List.getD_eq_getElem?_getD,List.getD_eq_getElem?_getD,List.getElem?_eq_getElem h1,List.getElem?_eq_getElem h2]at this
 exact this
theorem zuv (p q:Page):(p.kind==q.kind&&(p.arg==q.arg&&true))=decide (p=q):=by
 obtain⟨a,b⟩:=p
 obtain⟨c,d⟩:=q
 rw[Bool.eq_iff_iff]
 simp
theorem zr0 (a b:List Page):Spec X 32 [] [.c (.d (.sl .page a)),.c (.d (.sl .page b))] (Ret [] (.bo (decide (a=b)))):=by
 refine zGO X_ok Tryz.f32 fun hb hH=>⟨rfl,?_⟩
 have hla:a.length<=zE:=(hb (.c (.d (.sl .page a))) (by simp)).1
 unfold zE at hla
 show ABr ((a.length:Int) != (b.length:Int)) _ _
 refine⟨fun h=>?_,fun h=>?_⟩
 ·show ARet ..
  refine zt (x:=false) ?_ ⟨rfl,rfl⟩
  symm
  apply decide_eq_false
  intro e
  subst e
  simp at h
 ·have hlen:a.length=b.length:=by simp at h;omega
  show ∃n,_
  refine⟨0,ALoop.inv (ι:={i:Nat // i<=a.length/\∀j,j<i->a.getD j default=b.getD j default}) (fun i=>⟨[(0,.c (.d (.sl .page a))),(1,.c (.d (.sl .page b))),(5,.int i.1)],[],32⟩) (fun i=>a.length-i.1) ⟨0,Nat.zero_le _,fun j hj=>absurd hj (by omega)⟩ ?_ ?_⟩
  ·exact⟨[],.cons _ _ _ .same (.cons _ _ _ .same (.cons _ _ _ .same .nil)),.nil,rfl⟩
  ·rintro⟨i,hi,hn⟩
   show ABr (decide ((i:Int)<(a.length:Int))) _ _
   refine⟨fun h=>?_,fun h=>?_⟩
   ·have hlt:i<a.length:=by simpa using h
    show AOb ((0:Int)<=(i:Int)/\(i:Int)<(a.length:Int)) _
    refine⟨by omega,?_⟩
    show AOb ((0:Int)<=(i:Int)/\(i:Int)<(b.length:Int)) _
    refine⟨by omega,?_⟩
    show ABr (!((a.getD i default).kind==(b.getD i default).kind&&((a.getD i default).arg==(b.getD i default).arg&&true))) _ _
    rw[zuv]
    refine⟨fun h=>?_,fun h=>?_⟩
    ·have hne:a.getD i default≠b.getD i default:=by simpa using h
     show ARet ..
     refine zt (x:=false) ?_ ⟨rfl,rfl⟩
     symm
     apply decide_eq_false
     intro e
     subst e
     exact hne rfl
    ·have heq:a.getD i default=b.getD i default:=by simpa using h
     show ARound ..
     exact⟨⟨i+1,hlt,fun j hj=>by
      by_cases e:j=i
      ·subst e;exact heq
      ·exact hn j (by omega)⟩,by show a.length-(i+1)<a.length-i;omega,[],.cons _ _ _ .same (.cons _ _ _ .same (.cons _ _ _ (.int_eq (zad (i:=i) (by unfold zE;omega))) .nil)),.nil,rfl⟩
   ·have hge:i=a.length:=by simp at h;omega
    show ARet ..
    refine zt (x:=true) ?_ ⟨rfl,rfl⟩
    symm
    apply decide_eq_true
    exact znB hlen (by rw[←hge];exact hn)
theorem zx5 (a b:Hp):decide (a=b)=(decide (a.w=b.w)&&(decide (a.pages=b.pages)&&(decide (a.free=b.free)&&decide (a.cards=b.cards)))):=by
 obtain⟨a1,a2,a3,a4⟩:=a
 obtain⟨b1,b2,b3,b4⟩:=b
 rw[Bool.eq_iff_iff]
 simp
theorem zsL (a b:Hp):Spec X 16 [] [a.tv,b.tv] (Ret [] (.bo (decide (a=b)))):=by
 refine zGO X_ok Tryz.f16 fun hb hH=>⟨rfl,?_⟩
 have hla:a.cards.length<=zE:=((hb (a.tv) (by simp)) (.d (.sl .bool a.cards)) (by simp[Hp.enc])).1
 unfold zE at hla
 show ACall ..
 refine za (zhB a.w b.w) rfl ?_
 show ACall ..
 refine za (zr0 a.pages b.pages) rfl ?_
 show ACall ..
 refine za (zts a.free b.free) rfl ?_
 rw[zx5]
 show ABr (bif (bif (bif !decide (a.w=b.w) then true else !decide (a.pages=b.pages)) then true else !decide (a.free=b.free)) then true else (a.cards.length:Int) != (b.cards.length:Int)) _ _
 generalize decide (a.w=b.w)=b1
 generalize decide (a.pages=b.pages)=b2
 generalize decide (a.free=b.free)=b3
 refine⟨fun h=>?_,fun h=>?_⟩
 ·show ARet ..
  refine zt (x:=false) ?_ ⟨rfl,rfl⟩
  cases b1<;>cases b2<;>cases b3<;>try rfl
  symm
  simp only[Bool.true_and]
  apply decide_eq_false
  intro e
  rw[e]at h
  simp at h
 ·have hb3:b1=true/\b2=true/\b3=true/\a.cards.length=b.cards.length:=by
   cases b1<;>cases b2<;>cases b3<;>simp at h
   exact⟨rfl,rfl,rfl,by omega⟩
  obtain⟨rfl,rfl,rfl,hlen⟩:=hb3
  show ∃n,_
  refine⟨0,ALoop.inv (ι:={i:Nat // i<=a.cards.length/\∀j,j<i->a.cards.getD j default=b.cards.getD j default}) (fun i=>⟨[(2,.c (.d (.rp a.enc))),(3,.c (.d (.rp b.enc))),(8,.int i.1)],[],32⟩) (fun i=>a.cards.length-i.1) ⟨0,Nat.zero_le _,fun j hj=>absurd hj (by omega)⟩ ?_ ?_⟩
  ·exact⟨[],.cons _ _ _ (.c _ _ (.frz _ _ rfl)) (.cons _ _ _ (.c _ _ (.frz _ _ rfl)) (.cons _ _ _ .same .nil)),.nil,rfl⟩
  ·rintro⟨i,hi,hn⟩
   show ABr (decide ((i:Int)<(a.cards.length:Int))) _ _
   refine⟨fun h=>?_,fun h=>?_⟩
   ·have hlt:i<a.cards.length:=by simpa using h
    show AOb ((0:Int)<=(i:Int)/\(i:Int)<(a.cards.length:Int)) _
    refine⟨by omega,?_⟩
    show AOb ((0:Int)<=(i:Int)/\(i:Int)<(b.cards.length:Int)) _
    refine⟨by omega,?_⟩
    show ABr (a.cards.getD i default != b.cards.getD i default) _ _
    refine⟨fun h=>?_,fun h=>?_⟩
    ·have hne:a.cards.getD i default≠b.cards.getD i default:=fun e=>by rw[e]at h;simp at h
     show ARet ..
     refine zt (x:=false) ?_ ⟨rfl,rfl⟩
     symm
     simp only[Bool.true_and]
     apply decide_eq_false
     intro e
     rw[e]at hne
     exact hne rfl
    ·have heq:a.cards.getD i default=b.cards.getD i default:=bne_eq_false_iff_eq.1 h
     show ARound ..
     exact⟨⟨i+1,hlt,fun j hj=>by
      by_cases e:j=i
      ·subst e;exact heq
      ·exact hn j (by omega)⟩,by show a.cards.length-(i+1)<a.cards.length-i;omega,[],.cons _ _ _ .same (.cons _ _ _ .same (.cons _ _ _ (.int_eq (zad (i:=i) (by unfold zE;omega))) .nil)),.nil,rfl⟩
   ·have hge:i=a.cards.length:=by simp at h;omega
    show ARet ..
    refine zt (x:=true) ?_ ⟨rfl,rfl⟩
    symm
    simp only[Bool.true_and]
    apply decide_eq_true
    exact znB hlen (by rw[←hge];exact hn)
theorem zyK {g:Hp} {c:Col} {a:Int} (h:atK g c a=1):headE g a=0/\(headH g a).mark<c.epoch:=by
 unfold atK at h
 by_cases h0:headE g a=0
 ·refine⟨h0,?_⟩
  rw[decide_eq_true h0]at h
  have h:zb2 c (headH g a)=1:=h
  unfold zb2 at h
  by_cases h1:(headH g a).mark<c.epoch
  ·exact h1
  ·exfalso
   rw[decide_eq_false h1]at h
   revert h
   generalize (bif (bif (bif (headH g a).old then !c.major else false) then true else decide (c.epoch<0)) then true else decide (c.epoch>1048576))=q
   cases q<;>cases (headH g a).done<;>decide
 ·rw[decide_eq_false h0]at h
  have h:(0:Int)=1:=h
  exact absurd h (by decide)
end Go.Abs
namespace Go.Abs
def inC (c:Col) (x:Hd):Prop:=(x.old=false\/c.major=true)/\0<=c.epoch/\c.epoch<=1048576
theorem ztf {c:Col} {x:Hd}:(bif (bif (bif x.old then !c.major else false) then true else decide (c.epoch<0)) then true else decide (c.epoch>1048576))=false↔inC c x:=by
 unfold inC
 cases x.old<;>cases c.major<;>simp[Bool.cond_eq_ite]<;>omega
theorem zeq {c:Col} {x:Hd}:(zb2 c x=1↔inC c x/\x.mark<c.epoch)/\(zb2 c x=2↔inC c x/\c.epoch<=x.mark/\x.done=false)/\(zb2 c x=3↔inC c x/\c.epoch<=x.mark/\x.done=true):=by
 unfold zb2
 rw[←ztf]
 generalize (bif (bif (bif x.old then !c.major else false) then true else decide (c.epoch<0)) then true else decide (c.epoch>1048576))=q
 cases q with
 |true=>simp
 |false=>
  by_cases h:x.mark<c.epoch
  ·simp[h]
   omega
  ·have h' : c.epoch<=x.mark:=by omega
   cases x.done<;>simp[h,h']
theorem zm0 (c:Col) (x:Hd):0<=zb2 c x/\zb2 c x<=3:=by
 unfold zb2
 generalize (bif (bif (bif x.old then !c.major else false) then true else decide (c.epoch<0)) then true else decide (c.epoch>1048576))=q
 cases q<;>cases decide (x.mark<c.epoch)<;>cases x.done<;>decide
theorem zeW {g:Hp} {c:Col} {a:Int} (h:headE g a=0):atK g c a=zb2 c (headH g a):=by unfold atK;rw[decide_eq_true h];rfl
theorem zjW {g:Hp} {c:Col} {a:Int} (h:headE g a≠0):atK g c a=0:=by unfold atK;rw[decide_eq_false h];rfl
theorem zeB {g:Hp} {c:Col} {a:Int} (h:atK g c a≠0):headE g a=0:=by
 by_cases h0:headE g a=0
 ·exact h0
 ·exact absurd (zjW h0) h
theorem zs3 (g:Hp) (c:Col) (a:Int):0<=atK g c a/\atK g c a<=3:=by
 by_cases h:headE g a=0
 ·rw[zeW h];exact zm0 _ _
 ·rw[zjW h];decide
theorem zso {c d:Col} (h1:d.epoch=c.epoch) (h2:d.major=c.major) (x:Hd):zb2 d x=zb2 c x:=by unfold zb2;rw[h1,h2]
theorem zoH {c d:Col} (h1:d.epoch=c.epoch) (h2:d.major=c.major) (g:Hp) (a:Int):atK g d a=atK g c a:=by unfold atK;rw[zso h1 h2]
theorem zgt {g:Hp} {a:Int} (h:headE g a=0):(headH g a).May/\(headH g a).used=true:=by
 obtain⟨hm,hr,hu⟩:=zU h
 rw[zaA h]
 have hc:=(zai hm).2.2.1 a (zw.2 hr)
 unfold zaC at hc
 rw[Bool.and_eq_true]at hc
 obtain⟨e,h2⟩:=zpQ hc.1
 rw[e]
 rw[e]at hu
 exact⟨h2,hu⟩
theorem zmf {g:Hp} {a:Int} {x:Hd} (h0:headE g a=0) (hx:x.May) (hu:x.used=true) (hn:x.n=(headH g a).n):PutOk g a x/\zgW g a x=0:=by
 have h:zgW g a x=0:=by unfold zgW;rw[decide_eq_true h0,decide_eq_true ⟨hx,hu,hn⟩];rfl
 exact⟨(zx8 h).1,h⟩
theorem znK {g:Hp} (hm:zx g []=true) (a:Int):headE g a=0\/headE g a=3:=by
 unfold headE
 rw[hm]
 cases decide (ze g.pages a=0)<;>cases (unp (zf g a)).used<;>simp
theorem zgK {g:Hp} {a:Int} {x:Hd} (h:PutOk g a x) (u:Int):headE (zcc g a x.word) u=headE g u/\headH (zcc g a x.word) u=if u=a then x else headH g u:=by
 have hm:=h.may
 have hm' : zx (zcc g a x.word) []=true:=by rw[zhD h];exact hm
 have hiff:headE (zcc g a x.word) u=0↔headE g u=0:=by rw[←zaa,←zaa,zlg h]
 by_cases h0:headE g u=0
 ·obtain⟨h1,h2⟩:=zvV h h0
  exact⟨by rw[h1,h0],h2⟩
 ·have h0' : headE (zcc g a x.word) u≠0:=fun e=>h0 (hiff.1 e)
  have e1:=znK hm u
  have e2:=znK hm' u
  refine⟨by omega,?_⟩
  have hne:u≠a:=by
   intro e
   subst e
   apply h0
   unfold headE
   rw[hm,decide_eq_false h.room,h.used]
   rfl
  rw[if_neg hne,zb3 rfl h0',zb3 rfl h0]
theorem zcl {g:Hp} {c:Col} {a:Int} (h:atK g c a=1):headE g a=0/\PutOk g a (zhX g c a)/\zgW g a (zhX g c a)=0:=by
 have h0:headE g a=0:=zeB (c:=c) (by omega)
 rw[zeW h0]at h
 obtain⟨⟨_,h1,h2⟩,h3⟩:=zeq.1.1 h
 obtain⟨hm,hu⟩:=zgt h0
 have hx:(zhX g c a).May:=by
  unfold Hd.May at hm ⊢
  rw[if_pos hu]at hm
  have hu' : (zhX g c a).used=true:=hu
  rw[if_pos hu']
  exact⟨hm.1,hm.2.1,h1,h2⟩
 exact⟨h0,zmf h0 hx hu rfl⟩
theorem zdp {g:Hp} {c:Col} {a:Int} (h:atK g c a=1):zH g c a=zcc g a (zhX g c a).word:=by
 unfold zH
 rw[decide_eq_true h]
 exact ziV (zcl h).2.2
theorem zdn {g:Hp} {c:Col} {a:Int} (h:atK g c a≠1):zH g c a=g:=by unfold zH;rw[decide_eq_false h];rfl
theorem zkj {g:Hp} {c:Col} {a:Int} (h:atK g c a≠1):zG g c a=c:=by unfold zG;rw[decide_eq_false h];rfl
theorem zil {g:Hp} {c:Col} {a:Int} (h:atK g c a=1):zG g c a=if c.work.length<4 then {c with work:=c.work++[a]} else {c with over:=true}:=by
 unfold zG
 rw[decide_eq_true h]
 by_cases h4:c.work.length<4
 ·rw[if_pos h4,decide_eq_true (show(c.work.length:Int)<4 by omega)];rfl
 ·rw[if_neg h4,decide_eq_false (show ¬(c.work.length:Int)<4 by omega)];rfl
structure SameC (c d:Col):Prop where
 phase:d.phase=c.phase
 epoch:d.epoch=c.epoch
 major:d.major=c.major
 at_:d.at_=c.at_
 field_:d.field_=c.field_
 seek:d.seek=c.seek
 card:d.card=c.card
 met:d.met=c.met
theorem zY (g:Hp) (c:Col) (a:Int):SameC c (zG g c a):=by
 unfold zG
 cases decide (atK g c a=1)
 ·exact⟨rfl,rfl,rfl,rfl,rfl,rfl,rfl,rfl⟩
 ·cases decide ((c.work.length:Int)<4)<;>exact⟨rfl,rfl,rfl,rfl,rfl,rfl,rfl,rfl⟩
theorem zeV (g:Hp) (c:Col) (a u:Int):headE (zH g c a) u=headE g u/\headH (zH g c a) u=if u=a/\atK g c a=1 then zhX g c a else headH g u:=by
 by_cases h:atK g c a=1
 ·rw[zdp h]
  obtain⟨h1,h2⟩:=zgK (zcl h).2.1 u
  refine⟨h1,?_⟩
  rw[h2]
  by_cases e:u=a
  ·rw[if_pos e,if_pos ⟨e,h⟩]
  ·rw[if_neg e,if_neg (fun k=>e k.1)]
 ·rw[zdn h,if_neg (fun k=>h k.2)]
  exact⟨rfl,rfl⟩
theorem zbL (g:Hp) (c:Col) (a u:Int):atK (zH g c a) c u=if u=a/\atK g c a=1 then 2 else atK g c u:=by
 obtain⟨h1,h2⟩:=zeV g c a u
 by_cases h0:headE g u=0
 ·rw[zeW (h1.trans h0),h2]
  by_cases h:u=a/\atK g c a=1
  ·rw[if_pos h,if_pos h]
   have h3:=h.2
   rw[zeW (zcl h.2).1]at h3
   have h4:=zeq.1.1 h3
   exact zeq.2.1.2 ⟨h4.1,Int.le_refl _,rfl⟩
  ·rw[if_neg h,if_neg h,zeW h0]
 ·rw[zjW (fun e=>h0 (h1.symm.trans e)),zjW h0,if_neg]
  rintro⟨e,h⟩
  subst e
  exact h0 (zcl h).1
theorem zmW (g:Hp) (c:Col) (a:Int) (cs:List Lists):zx (zH g c a) cs=zx g cs:=by
 by_cases h:atK g c a=1
 ·rw[zdp h,zhD (zcl h).2.1]
 ·rw[zdn h]
theorem zb5 (g:Hp) (c:Col) (a:Int) (cs:List Lists):zq (zH g c a) cs=zq g cs:=by
 by_cases h:atK g c a=1
 ·rw[zdp h,zkh (zcl h).2.1]
 ·rw[zdn h]
theorem zkM (g:Hp) (c:Col) (a:Int):zu (zH g c a)=zu g:=by
 by_cases h:atK g c a=1
 ·rw[zdp h,zlg (zcl h).2.1]
 ·rw[zdn h]
theorem zpt (g:Hp) (c:Col) (a:Int):(zH g c a).pages=g.pages/\(zH g c a).free=g.free/\(zH g c a).cards=g.cards/\(zH g c a).w.length=g.w.length:=by
 by_cases h:atK g c a=1
 ·rw[zdp h]
  exact⟨rfl,rfl,rfl,List.length_set⟩
 ·rw[zdn h]
  exact⟨rfl,rfl,rfl,rfl⟩
theorem zkw (g:Hp) (c:Col) (a:Int) (i:Nat) (h:(zH g c a).w.getD i default≠g.w.getD i default):(i:Int)=a-16/\atK g c a=1:=by
 by_cases h1:atK g c a=1
 ·refine⟨?_,h1⟩
  rw[zdp h1]at h
  have had:=zaL (h:=g) (zcl h1).2.1.room
  by_cases e:(a-16).toNat=i
  ·have:=had.1;omega
  ·exfalso
   apply h
   show(g.w.set (a-16).toNat _).getD i default=_
   rw[List.getD_eq_getElem?_getD,List.getD_eq_getElem?_getD,List.getElem?_set_ne e]
 ·rw[zdn h1]at h
  exact absurd rfl h
theorem zci {g:Hp} {c:Col} {a:Int} (h:atK g c a=2):headE g a=0/\PutOk g a (zhK g a)/\zgW g a (zhK g a)=0:=by
 have h0:headE g a=0:=zeB (c:=c) (by omega)
 obtain⟨hm,hu⟩:=zgt h0
 have hx:(zhK g a).May:=by
  unfold Hd.May at hm ⊢
  rw[if_pos hu]at hm
  have hu' : (zhK g a).used=true:=hu
  rw[if_pos hu']
  exact hm
 exact⟨h0,zmf h0 hx hu rfl⟩
theorem zdo {g:Hp} {c:Col} {a:Int} (h:atK g c a=2):zak g c a=zcc g a (zhK g a).word:=by
 unfold zak
 rw[decide_eq_true h]
 exact ziV (zci h).2.2
theorem zed {g:Hp} {c:Col} {a:Int} (h:atK g c a≠2):zak g c a=g:=by unfold zak;rw[decide_eq_false h];rfl
theorem zeZ (g:Hp) (c:Col) (a u:Int):headE (zak g c a) u=headE g u/\headH (zak g c a) u=if u=a/\atK g c a=2 then zhK g a else headH g u:=by
 by_cases h:atK g c a=2
 ·rw[zdo h]
  obtain⟨h1,h2⟩:=zgK (zci h).2.1 u
  refine⟨h1,?_⟩
  rw[h2]
  by_cases e:u=a
  ·rw[if_pos e,if_pos ⟨e,h⟩]
  ·rw[if_neg e,if_neg (fun k=>e k.1)]
 ·rw[zed h,if_neg (fun k=>h k.2)]
  exact⟨rfl,rfl⟩
theorem zfH (g:Hp) (c:Col) (a u:Int):atK (zak g c a) c u=if u=a/\atK g c a=2 then 3 else atK g c u:=by
 obtain⟨h1,h2⟩:=zeZ g c a u
 by_cases h0:headE g u=0
 ·rw[zeW (h1.trans h0),h2]
  by_cases h:u=a/\atK g c a=2
  ·rw[if_pos h,if_pos h]
   have h3:=h.2
   rw[zeW (zci h.2).1]at h3
   have h4:=zeq.2.1.1 h3
   exact zeq.2.2.2 ⟨h4.1,h4.2.1,rfl⟩
  ·rw[if_neg h,if_neg h,zeW h0]
 ·rw[zjW (fun e=>h0 (h1.symm.trans e)),zjW h0,if_neg]
  rintro⟨e,h⟩
  subst e
  exact h0 (zci h).1
theorem zsu (g:Hp) (c:Col) (a:Int) (cs:List Lists):zx (zak g c a) cs=zx g cs:=by
 by_cases h:atK g c a=2
 ·rw[zdo h,zhD (zci h).2.1]
 ·rw[zed h]
theorem zjw (g:Hp) (c:Col) (a:Int) (cs:List Lists):zq (zak g c a) cs=zq g cs:=by
 by_cases h:atK g c a=2
 ·rw[zdo h,zkh (zci h).2.1]
 ·rw[zed h]
theorem zqc (g:Hp) (c:Col) (a:Int):zu (zak g c a)=zu g:=by
 by_cases h:atK g c a=2
 ·rw[zdo h,zlg (zci h).2.1]
 ·rw[zed h]
theorem zp4 (g:Hp) (c:Col) (a:Int):(zak g c a).pages=g.pages/\(zak g c a).free=g.free/\(zak g c a).cards=g.cards/\(zak g c a).w.length=g.w.length:=by
 by_cases h:atK g c a=2
 ·rw[zdo h]
  exact⟨rfl,rfl,rfl,List.length_set⟩
 ·rw[zed h]
  exact⟨rfl,rfl,rfl,rfl⟩
theorem zri (g:Hp) (c:Col) (a:Int) (i:Nat) (h:(zak g c a).w.getD i default≠g.w.getD i default):(i:Int)=a-16/\atK g c a=2:=by
 by_cases h1:atK g c a=2
 ·refine⟨?_,h1⟩
  rw[zdo h1]at h
  have had:=zaL (h:=g) (zci h1).2.1.room
  by_cases e:(a-16).toNat=i
  ·have:=had.1;omega
  ·exfalso
   apply h
   show(g.w.set (a-16).toNat _).getD i default=_
   rw[List.getD_eq_getElem?_getD,List.getD_eq_getElem?_getD,List.getElem?_set_ne e]
 ·rw[zed h1]at h
  exact absurd rfl h
open Go.Proofs Go.Proofs.YtlankjlnnimdoaaGreatDoor
set_option maxRecDepth 8000
def zM (l:List Page) (a:Int):Int:=((cellStarts l).find? fun s=>decide (a<s)).getD 0
theorem zkE (l:List Page) (a:Int):(zM l a=0/\∀u∈cellStarts l,u<=a)\/(a<zM l a/\zM l a∈cellStarts l/\∀u∈cellStarts l,a<u->zM l a<=u):=by
 unfold zM
 have hs:=zdv l
 generalize cellStarts l=L at *
 induction L with
 |nil=>exact .inl ⟨rfl,fun u h=>by cases h⟩
 |cons x r ih=>
  rw[List.pairwise_cons]at hs
  rw[List.find?_cons]
  by_cases hx:a<x
  ·rw[decide_eq_true hx]
   refine .inr ⟨hx,List.mem_cons_self ..,fun u hu _=>?_⟩
   rcases List.mem_cons.1 hu with e|hu
   ·rw[e];exact Int.le_refl _
   ·exact Int.le_of_lt (hs.1 u hu)
  ·rw[decide_eq_false hx]
   rcases ih hs.2 with⟨h1,h2⟩|⟨h1,h2,h3⟩
   ·refine .inl ⟨h1,fun u hu=>?_⟩
    rcases List.mem_cons.1 hu with e|hu
    ·omega
    ·exact h2 u hu
   ·refine .inr ⟨h1,List.mem_cons_of_mem _ h2,fun u hu ha=>?_⟩
    rcases List.mem_cons.1 hu with e|hu
    ·omega
    ·exact h3 u hu ha
theorem zfs (a:Int) (x:Int×Int):Spec X 247 [] [.int a,.agg [.d (DV.int x.1),.d (DV.int x.2)]] (Ret [] (.bo (decide (a<x.1)))):=by
 refine zGO X_ok Tryz.f247 fun hb hH=>⟨rfl,?_⟩
 show ARet ..
 exact zt rfl ⟨rfl,rfl⟩
def zks (l:List Page) (a:Int):Bool:=((cellStarts l).find? fun s=>decide (a<s)).isSome
theorem zsV (l:List Page) (a:Int):(cellStarts l).find? (fun s=>decide (a<s))=((cellsAll l).find? fun x=>decide (a<x.1)).map (·.1):=by
 unfold cellStarts
 rw[List.find?_map]
 rfl
theorem zmS (l:List Page) (a:Int):Spec X 213 [] [.c (.d (.sl .page l)),.int a] (Ret [] (.tup [.int (zM l a),.bo (zks l a)])):=by
 refine zGO X_ok Tryz.f213 fun hb hH=>⟨rfl,?_⟩
 unfold zM zks
 rw[zsV]
 cases h:(cellsAll l).find? fun x=>decide (a<x.1) with
 |none=>
  show ACall ..
  refine za (zk4 (zfs a) h) rfl ?_
  show ARet ..
  exact zi rfl ⟨rfl,rfl⟩
 |some x=>
  show ACall ..
  refine za (zk4 (zfs a) h) rfl ?_
  show ARet ..
  exact zi rfl ⟨rfl,rfl⟩
end Go.Abs
