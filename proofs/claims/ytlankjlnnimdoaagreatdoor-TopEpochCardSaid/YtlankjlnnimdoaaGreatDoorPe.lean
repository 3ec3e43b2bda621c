/- Walks and plain laws: WAlloc, WTake, WFlush, WRef07, WRef12, WRegsObject, WPuts, WRegsTells, WSame07, WShadeK, WNext, WTraceK, WHandK. -/
import Derived.Test.YtlankjlnnimdoaaGreatDoorPd
import Derived.Test.YtlankjlnnimdoaaGreatDoorPc
import Derived.Test.YtlankjlnnimdoaaGreatDoorAbsBase1
import Derived.Test.YtlankjlnnimdoaaGreatDoorPa
set_option linter.all false
set_option linter.unusedVariables false
set_option linter.unusedSimpArgs false
namespace Go.Abs
open Go.Proofs Go.Proofs.YtlankjlnnimdoaaGreatDoor
set_option maxRecDepth 8000
theorem ztK (l:List Page) (i:Nat) (hm:zas l=true) (hi:i < l.length):Spec X 267 [] [.c (.d (.sl .page l)),.int (i:Int)] (Ret [(0,.data .int (startsOn l i))] (.c (.own 0))):=by
 refine zd X_ok Tryz.f267 (by kernel_rfl) (by kernel_rfl) (by kernel_rfl) fun hb hH=>⟨rfl,?_⟩
 have hmp:=zah hm
 have hcnd:(bif decide ((i:Int) < 0) then true else decide ((i:Int)≥(l.length:Int)))=false:=by
  rw [decide_eq_false (show ¬ (i:Int) < 0 by omega),decide_eq_false (show ¬ (i:Int)≥(l.length:Int) by omega)];rfl
 show AIf ..
 refine ⟨fun _=>?_,fun h=>absurd ⟨(by exact hcnd),trivial⟩ h⟩
 show ACall ..
 refine za (zcG l) rfl ?_
 rw [hm]
 show ABr ..
 refine ⟨fun h=>absurd h (by decide),fun _=>?_⟩
 show ACall ..
 refine za (zrZ l (i:Int)) rfl ?_
 obtain ⟨xs,hxs0⟩:∃ xs,xs=zG (l.getD i default) (16 * ((i:Int)+1)):=⟨_,rfl⟩
 have hlen:xs.length≤8:=by rw [hxs0];exact zfF _ _
 have he:startsOn l i=xs.map (·.1):=by rw [hxs0];rfl
 rw [he]
 have hsp:=fun L=>zpH L l i hi hmp.2.2 (hmp.1 i hi)
 rw [← hxs0] at hsp
 obtain ⟨St,hSt⟩:∃ St:List (Int × Int)→zg,St=fun r=>[(16,.vars [.own 1]),(1,.data .int ((xs.take (xs.length - r.length)).map (·.1)))]:=⟨_,rfl⟩
 have hS0:St xs=[(16,.vars [.own 1]),(1,.data .int ([]:List Int))]:=by rw [hSt];simp <;> rfl
 have hS1:St []=[(16,.vars [.own 1]),(1,.data .int (xs.map (·.1)))]:=by rw [hSt];simp <;> rfl
 show ARange _ _ _ _ _ _ _ _
 refine .mk ⟨[(5,.c (.ptr 1 0 0)),(22,.c (.d (.fn 139 [] [.rp [.sl .page l],.rp [DV.int i]])))],[(1,.vars [.d DV.nilsl])],160⟩ ?_ 139 [.rp [.sl .page l],.rp [DV.int i]] rfl xs 23 rfl [(1,16)] [(5,.c (.ptr 16 0 0))]
  (fun _=>True) St (fun _ _=>False) trivial (.cons _ _ _ (.c _ _ (.ptr _ _ _ _ rfl)) .nil) ?_ ?_ hsp ?_ (fun _=>?_) (fun e H h=>h.elim)
 ·exact ⟨[(_,1)],.cons _ _ _ (.c _ _ (.ptr1 _ _ _ _)) (.cons _ _ _ .same .nil),.old 1 _ _ _ _ rfl rfl (.vars _ _ (.cons _ _ _ _ (.d _) .nil)) .nil,rfl⟩
 ·rw [hS0]
  exact .old 16 1 _ _ _ rfl rfl (.vars _ _ (.cons _ _ _ _ (.nilown 1 .int rfl rfl) .nil)) (.new 1 .int _ rfl .nil)
 ·rw [hS0];rfl
 ·intro pre x r hx _
  have h1:xs.take (xs.length - (x :: r).length)=pre:=zhy hx
  have h2:xs.take (xs.length - r.length)=pre ++ [x]:=zhy (by rw [hx];simp)
  have hpre:pre.length≤512:=by rw [hx] at hlen;simp at hlen;omega
  rw [hSt]
  simp only [h1,h2]
  show AOb ((pre.map (·.1)).length+1≤most) _
  refine ⟨by rw [List.length_map];unfold most;omega,?_⟩
  show AEnd _ _∧True
  refine ⟨⟨[(_,1),(16,16)],.old 16 16 _ _ _ rfl rfl (.vars _ _ (.cons _ _ _ _ (.own1 _ _) .nil)) (.old 1 _ _ _ _ rfl rfl (.data_eq ?_) .nil),rfl⟩,trivial⟩
  exact (by simp:(pre.map (fun y:Int × Int=>y.1):List Int) ++ [x.1]=(pre ++ [x]).map (fun y=>y.1))
 ·rw [hS1]
  refine ⟨rfl,?_⟩
  show ARet ..
  exact ⟨[(_,0)],[(0,.data .int (xs.map (·.1)))],[.c (.own 0)],.cons _ _ _ _ (.c _ _ (.own1 _ _)) .nil,.old 0 _ _ _ _ rfl rfl (.data_eq rfl) .nil,rfl,rfl,rfl⟩
def frV (g:Hp) (c:Lists):List CV:=(g.enc ++ EK.enc .lists c).map .d
set_option maxRecDepth 60000 in
set_option maxHeartbeats 4000000 in
theorem zg1 (g : Hp) (c : Lists) (k : Int) (hs : zE g = true) (hk : 0 ≤ k ∧ k ≤ 2) (hok : g.free.ok) (hf : (g.free.at_ k).length + 8 ≤ most) : Spec X 253 [(16, .vars (frV g c))] [.c (.ptr 16 0 0), .int k] (fun H r => H = [(16, .vars (frV (zL g k) c))] ∧ r = .int (zdX g)) := by
  refine zd X_ok Tryz.f253 (by kernel_rfl) (by kernel_rfl) (by kernel_rfl) fun hb hH => ⟨rfl, ?_⟩
  obtain ⟨hmw, hmp, hwl, hcl, _, h64⟩ := zr hs
  show ACall _ _ _ _ _ _
  refine za (zkG g.pages 1 hmp (by decide) (by decide)) rfl ?_
  cases hfp : zaT g.pages 1 with
  | none =>
    rw [(zaV hfp k).1, (zaV hfp k).2]
    show ABr _ _ _
    refine ⟨fun _ => ?_, fun h => absurd h (by decide)⟩
    show ARet _ _ _
    exact ⟨[(16, 16)], [(16, .vars (frV g c))], [.int 4], .cons _ _ _ _ .same .nil, .old 16 16 _ _ _ rfl rfl (.vars _ _ (zb rfl)) .nil, rfl, rfl, rfl⟩
  | some i =>
    obtain ⟨hfr, hil⟩ := zbF hfp
    rw [(zaX hfp k).1, (zaX hfp k).2]
    show ABr _ _ _
    refine ⟨fun h => absurd h (by simp), fun _ => ?_⟩
    show ACall _ _ _ _ _ _
    refine za (zpM g.pages i k hmp hk hfr) rfl ?_
    have hmp' := ziv hmp hfr hk
    have hlp : (zbm g.pages i [⟨1, k⟩]).length = g.pages.length := zsu _ _ _ hil
    show ACall _ _ _ _ _ _
    refine .mk _ (ztK (zbm g.pages i [⟨1, k⟩]) i hmp' (by omega)) fun H r ⟨eH, er⟩ _ _ => ⟨.inl rfl, ?_⟩
    subst eH er
    obtain ⟨L, hL⟩ : ∃ L, L = zbm g.pages i [⟨1, k⟩] := ⟨_, rfl⟩
    rw [← hL] at hmp' hlp ⊢
    have hin : ∀ a ∈ startsOn L i, 16 ≤ a ∧ a < 16 + (g.w.length : Int) := fun a ha => by
      have := ziJ ((zah hmp').1 i (by omega)) ha
      omega
    have hsl := zeI L i
    generalize startsOn L i = O at *
    show ACall _ _ _ _ _ _
    refine .hand [(1184, 16)] [(16, .data .int O)] [.c (.view 16 0 O.length)] _ (.cons _ _ _ _ (.c _ _ (.whole _ _ _ rfl rfl)) .nil) (.old 16 1184 _ _ _ rfl rfl (.data_eq rfl) .nil) rfl (zde O 0 O.length (by omega)) ?_
    rintro H r ⟨rfl, rfl⟩ _ _
    refine ⟨rfl, .inl rfl, ?_⟩
    have er : zco O 0 O.length = O.reverse := by unfold zco; simp
    have el : ((zco O 0 O.length).length : Int) = (O.length : Int) := by rw [er, List.length_reverse]
    have hrl : O.reverse.length = O.length := List.length_reverse
    have hin' : ∀ a ∈ O.reverse, 16 ≤ a ∧ a < 16 + (g.w.length : Int) := fun a ha => hin a (List.mem_reverse.1 ha)
    show ∃ n, _
    refine ⟨0, ALoop.inv (ι := {j : Nat // j ≤ O.length}) (fun q => ⟨[(0, .c (.ptr 16 0 0)), (1, .int (k)), (7, .c (.d (.sl .int (O.reverse)))), (45, .c (.d (.sl .int (O.reverse)))), (46, .int ((O.length : Int))), (47, .int ((q.1 : Int)))], [(16, .vars (frV { g with w := zct g.w (O.reverse.take q.1), pages := L } c))], 64⟩) (fun q => O.length - q.1) ⟨0, Nat.zero_le _⟩ ?_ ?_⟩
    · exact ⟨[(16, 16)], (by repeat' first | exact .nil | refine .cons _ _ _ ?_ ?_ | exact .frz (k := .int) rfl er | exact .int_eq el | exact .same | exact .c _ _ (.own _ _ rfl) | exact .c _ _ (.ptr _ _ _ _ rfl) | exact .c _ _ (.frz _ _ rfl) | exact .any _), (by exact .old 16 16 _ _ _ rfl rfl (.vars _ _ (zb rfl)) .nil), (by rfl)⟩
    rintro ⟨j, hj⟩
    have hj : j ≤ O.length := hj
    show ABr (decide ((j : Int) < (O.length : Int))) _ _
    refine ⟨fun h => ?_, fun h => ?_⟩
    · have hjl : j < O.reverse.length := by have := of_decide_eq_true h; omega
      have wj : IntKind.i64.wrap ((j : Int) + 1) = ((j + 1 : Nat) : Int) := zad (i := j) (by unfold zD; omega)
      show AOb ((0 : Int) ≤ (j : Int) ∧ (j : Int) < (O.reverse.length : Int)) _
      refine ⟨by omega, ?_⟩
      have ha : 16 ≤ at0 O.reverse j ∧ at0 O.reverse j < 16 + (g.w.length : Int) := hin' _ (by rw [zcO hjl]; exact List.getElem_mem hjl)
      have hmz : zbg (zct g.w (O.reverse.take j)) = true := by unfold zbg at hmw ⊢; rw [zdv]; exact hmw
      show ACall _ _ _ _ _ _
      refine za (zeg (zct g.w (O.reverse.take j)) (at0 O.reverse j) 0 hmz (by rw [zdv]; exact ha)) rfl ?_
      have ez : zct g.w (O.reverse.take (j + 1)) = (zct g.w (O.reverse.take j)).set (at0 O.reverse j - 16).toNat 0 := by
        rw [List.take_succ_eq_append_getElem hjl, zkC, zcO hjl]
      show ARound _ _ _ _
      exact ⟨⟨j + 1, by omega⟩, (by dsimp only; omega), [(16, 16)], (by repeat' first | exact .nil | refine .cons _ _ _ ?_ ?_ | exact .int_eq wj | exact .same | exact .c _ _ (.own _ _ rfl) | exact .c _ _ (.ptr _ _ _ _ rfl) | exact .c _ _ (.frz _ _ rfl) | exact .any _), (by exact .old 16 16 _ _ _ rfl rfl (.vars _ _ (by rw [ez]; exact zb rfl)) .nil), (by rfl)⟩
    · have hjl : j = O.length := by have := of_decide_eq_false h; omega
      have et : O.reverse.take j = O.reverse := by rw [List.take_of_length_le (by omega)]
      rw [et]
      show ACall _ _ _ _ _ _
      refine za (zey g.free k O.reverse hk hok (by omega)) rfl ?_
      show ARet _ _ _
      exact ⟨[(16, 16)], [(16, .vars (frV ⟨zct g.w O.reverse, L, g.free.set_ k (g.free.at_ k ++ O.reverse), g.cards⟩ c))], [.int 0], .cons _ _ _ _ .same .nil, .old 16 16 _ _ _ rfl rfl (.vars _ _ (zb rfl)) .nil, rfl, rfl, rfl⟩
theorem zez {l:Lists} (h:l.ok) (k:Int):(l.at_ k).length≤most:=by
 unfold Lists.at_
 split
 ·exact h.1
 ·split
  ·exact h.2.1
  ·exact h.2.2
theorem zmT {g : Hp} {k : Int} (hk : 0 ≤ k ∧ k ≤ 2) (hok : g.free.ok) (hf : (g.free.at_ k).length + 8 ≤ most) : (zL g k).free.ok := by
  cases h : zaT g.pages 1 with
  | none => rw [(zaV h k).1]; exact hok
  | some i =>
    rw [(zaX h k).1]
    refine zed hok ?_
    rw [List.length_append, List.length_reverse]
    have := zeI (zbm g.pages i [⟨1, k⟩]) i
    omega
set_option maxRecDepth 60000 in
set_option maxHeartbeats 4000000 in
theorem zo0 (g:Hp) (c:Lists) (k:Int) (hs:zE g=true) (hk:0≤k∧k≤2) (hok:g.free.ok) (hco:c.ok) (hf:(g.free.at_ k).length+8≤most) (hfc:(g.free.at_ k).length+(c.at_ k).length≤most):Spec X 232 [(16,.vars (frV g c))] [.c (.ptr 16 0 0),.int k] (fun H r=>H=[(16,.vars (frV (zX g c k) (smallC g c k)))]∧r = .tup [.int (zaj g c k),.int (zQ g c k)]):=by
 refine zd X_ok Tryz.f232 (by kernel_rfl) (by kernel_rfl) (by kernel_rfl) fun hb hH=>⟨rfl,?_⟩
 have hkk:k=0∨k=1∨k=2:=by omega
 rcases hkk with rfl | rfl | rfl
 ·show AOb ..
  refine ⟨by decide,?_⟩
  show ABr (decide (((c.l0).length:Int)=0)) _ _
  by_cases h1:c.at_ 0=[]
  ·have h1' : c.l0=[]:=h1
   rw [show decide (((c.l0).length:Int)=0)=true by rw [h1'];rfl]
   show ABr ..
   refine ⟨fun _=>?_,fun h=>absurd h (by decide)⟩
   show AOb ..
   refine ⟨by decide,?_⟩
   show ABr (decide (((g.free.l0).length:Int)=0)) _ _
   by_cases h2:g.free.at_ 0=[]
   ·have h2' : g.free.l0=[]:=h2
    rw [show decide (((g.free.l0).length:Int)=0)=true by rw [h2'];rfl]
    show ABr ..
    refine ⟨fun _=>?_,fun h=>absurd h (by decide)⟩
    show ACall ..
    refine .hand [(16,16)] [(16,.vars (frV g c))] [.c (.ptr 16 0 0),.int 0] _ (.cons _ _ _ _ (.c _ _ (.ptr _ _ _ _ rfl)) (.cons _ _ _ _ .same .nil)) (.old 16 16 _ _ _ rfl rfl (.vars _ _ (zb rfl)) .nil) rfl (zg1 g c 0 hs hk hok hf) ?_
    rintro H r ⟨rfl,rfl⟩ _ _
    refine ⟨rfl,.inl rfl,?_⟩
    show ABr (zdX g != 0) _ _
    rcases zdZ g with he | he
    ·rw [he]
     show ABr ..
     refine ⟨fun h=>absurd h (by decide),fun _=>?_⟩
     have eE:zQ g c 0=0:=by unfold zQ;rw [if_pos ⟨h1,h2⟩];exact he
     have eR:refG g c 0=zL g 0:=by unfold refG;rw [if_pos ⟨h1,h2⟩]
     have hgp:=zcn hk eE
     have okR:(zL g 0).free.ok:=zmT hk hok hf
     unfold zX smallC zaj
     rw [if_pos eE,if_pos eE,if_pos eE,if_pos h1,eE]
     unfold zi7 zcd at *
     rw [if_pos h1] at hgp
     rw [if_pos h1,if_pos h1,eR]
     rw [eR] at hgp
     have hgl:((((zL g 0)).free.at_ 0).drop (leftOf (((zL g 0)).free.at_ 0).length 2)).reverse.length≤most:=by rw [List.length_reverse,List.length_drop];have:=zez okR 0;omega
     have sp:=zdt ((zL g 0)).free c 0 2 ⟨by decide,by decide⟩ (by decide) (by decide) okR hco (by rw [h1];exact zez okR 0)
     rw [h1,List.nil_append] at sp
     show ADCall ..
     refine .mk _ _ (sp) rfl ?_
     have sq:=zck (c.set_ 0 ((((zL g 0)).free.at_ 0).drop (leftOf (((zL g 0)).free.at_ 0).length 2)).reverse) 0 ⟨by decide,by decide⟩ (zed hco hgl) (by rw [za0 ⟨by decide,by decide⟩];exact hgp)
     rw [zfT,za0 ⟨by decide,by decide⟩] at sq
     show ACall ..
     refine za (sq) rfl ?_
     show ARet ..
     exact ⟨[(16,16)],[(16,.vars (frV { (zL g 0) with free:=((zL g 0)).free.set_ 0 ((((zL g 0)).free.at_ 0).take (leftOf (((zL g 0)).free.at_ 0).length 2)) } (c.set_ 0 ((((((zL g 0)).free.at_ 0).drop (leftOf (((zL g 0)).free.at_ 0).length 2)).reverse).take ((((((zL g 0)).free.at_ 0).drop (leftOf (((zL g 0)).free.at_ 0).length 2)).reverse).length - 1)))))],[.int (at0 ((((zL g 0)).free.at_ 0).drop (leftOf (((zL g 0)).free.at_ 0).length 2)).reverse (((((zL g 0)).free.at_ 0).drop (leftOf (((zL g 0)).free.at_ 0).length 2)).reverse.length - 1)),.int 0],.cons _ _ _ _ .same (.cons _ _ _ _ .same .nil),.old 16 16 _ _ _ rfl rfl (.vars _ _ (zb rfl)) .nil,rfl,rfl,rfl⟩
    ·rw [he]
     show ABr ..
     refine ⟨fun _=>?_,fun h=>absurd h (by decide)⟩
     have eE:zQ g c 0=4:=by unfold zQ;rw [if_pos ⟨h1,h2⟩];exact he
     obtain ⟨e1,e2,e3,_⟩:=zjY (g:=g) (c:=c) (k:=0) (by rw [eE];decide)
     have eP:zL g 0=g:=by
      cases hfp:zaT g.pages 1 with
      | none=>exact (zaV hfp 0).1
      | some i=>rw [(zaX hfp 0).2] at he;cases he
     rw [e1,e2,e3,eE,eP]
     show ARet ..
     exact ⟨[(16,16)],[(16,.vars (frV g c))],[.int 0,.int 4],.cons _ _ _ _ .same (.cons _ _ _ _ .same .nil),.old 16 16 _ _ _ rfl rfl (.vars _ _ (zb rfl)) .nil,rfl,rfl,rfl⟩
   ·have h2' : g.free.l0≠[]:=h2
    rw [show decide (((g.free.l0).length:Int)=0)=false from decide_eq_false fun q=>h2' (List.eq_nil_of_length_eq_zero (by omega))]
    show ABr ..
    refine ⟨fun h=>absurd h (by decide),fun _=>?_⟩
    have eE:zQ g c 0=0:=by unfold zQ;rw [if_neg fun q=>h2 q.2]
    have eR:refG g c 0=g:=by unfold refG;rw [if_neg fun q=>h2 q.2]
    have hgp:=zcn hk eE
    have okR:=hok
    unfold zX smallC zaj
    rw [if_pos eE,if_pos eE,if_pos eE,if_pos h1,eE]
    unfold zi7 zcd at *
    rw [if_pos h1] at hgp
    rw [if_pos h1,if_pos h1,eR]
    rw [eR] at hgp
    have hgl:(((g).free.at_ 0).drop (leftOf ((g).free.at_ 0).length 2)).reverse.length≤most:=by rw [List.length_reverse,List.length_drop];have:=zez okR 0;omega
    have sp:=zdt (g).free c 0 2 ⟨by decide,by decide⟩ (by decide) (by decide) okR hco (by rw [h1];exact zez okR 0)
    rw [h1,List.nil_append] at sp
    show ADCall ..
    refine .mk _ _ (sp) rfl ?_
    have sq:=zck (c.set_ 0 (((g).free.at_ 0).drop (leftOf ((g).free.at_ 0).length 2)).reverse) 0 ⟨by decide,by decide⟩ (zed hco hgl) (by rw [za0 ⟨by decide,by decide⟩];exact hgp)
    rw [zfT,za0 ⟨by decide,by decide⟩] at sq
    show ACall ..
    refine za (sq) rfl ?_
    show ARet ..
    exact ⟨[(16,16)],[(16,.vars (frV { g with free:=(g).free.set_ 0 (((g).free.at_ 0).take (leftOf ((g).free.at_ 0).length 2)) } (c.set_ 0 (((((g).free.at_ 0).drop (leftOf ((g).free.at_ 0).length 2)).reverse).take (((((g).free.at_ 0).drop (leftOf ((g).free.at_ 0).length 2)).reverse).length - 1)))))],[.int (at0 (((g).free.at_ 0).drop (leftOf ((g).free.at_ 0).length 2)).reverse ((((g).free.at_ 0).drop (leftOf ((g).free.at_ 0).length 2)).reverse.length - 1)),.int 0],.cons _ _ _ _ .same (.cons _ _ _ _ .same .nil),.old 16 16 _ _ _ rfl rfl (.vars _ _ (zb rfl)) .nil,rfl,rfl,rfl⟩
  ·have h1' : c.l0≠[]:=h1
   rw [show decide (((c.l0).length:Int)=0)=false from decide_eq_false fun q=>h1' (List.eq_nil_of_length_eq_zero (by omega))]
   show ABr ..
   refine ⟨fun h=>absurd h (by decide),fun _=>?_⟩
   have eE:zQ g c 0=0:=by unfold zQ;rw [if_neg fun q=>h1 q.1]
   have hgp:=zcn hk eE
   unfold zX smallC zaj
   rw [if_pos eE,if_pos eE,if_pos eE,if_neg h1,eE]
   unfold zcd at *
   rw [if_neg h1] at hgp
   rw [if_neg h1]
   show ACall ..
   refine za (zck c 0 ⟨by decide,by decide⟩ hco hgp) rfl ?_
   show ARet ..
   exact ⟨[(16,16)],[(16,.vars (frV g (c.set_ 0 ((c.at_ 0).take ((c.at_ 0).length - 1)))))],[.int (at0 (c.at_ 0) ((c.at_ 0).length - 1)),.int 0],.cons _ _ _ _ .same (.cons _ _ _ _ .same .nil),.old 16 16 _ _ _ rfl rfl (.vars _ _ (zb rfl)) .nil,rfl,rfl,rfl⟩
 ·show AOb ..
  refine ⟨by decide,?_⟩
  show ABr (decide (((c.l1).length:Int)=0)) _ _
  by_cases h1:c.at_ 1=[]
  ·have h1' : c.l1=[]:=h1
   rw [show decide (((c.l1).length:Int)=0)=true by rw [h1'];rfl]
   show ABr ..
   refine ⟨fun _=>?_,fun h=>absurd h (by decide)⟩
   show AOb ..
   refine ⟨by decide,?_⟩
   show ABr (decide (((g.free.l1).length:Int)=0)) _ _
   by_cases h2:g.free.at_ 1=[]
   ·have h2' : g.free.l1=[]:=h2
    rw [show decide (((g.free.l1).length:Int)=0)=true by rw [h2'];rfl]
    show ABr ..
    refine ⟨fun _=>?_,fun h=>absurd h (by decide)⟩
    show ACall ..
    refine .hand [(16,16)] [(16,.vars (frV g c))] [.c (.ptr 16 0 0),.int 1] _ (.cons _ _ _ _ (.c _ _ (.ptr _ _ _ _ rfl)) (.cons _ _ _ _ .same .nil)) (.old 16 16 _ _ _ rfl rfl (.vars _ _ (zb rfl)) .nil) rfl (zg1 g c 1 hs hk hok hf) ?_
    rintro H r ⟨rfl,rfl⟩ _ _
    refine ⟨rfl,.inl rfl,?_⟩
    show ABr (zdX g != 0) _ _
    rcases zdZ g with he | he
    ·rw [he]
     show ABr ..
     refine ⟨fun h=>absurd h (by decide),fun _=>?_⟩
     have eE:zQ g c 1=0:=by unfold zQ;rw [if_pos ⟨h1,h2⟩];exact he
     have eR:refG g c 1=zL g 1:=by unfold refG;rw [if_pos ⟨h1,h2⟩]
     have hgp:=zcn hk eE
     have okR:(zL g 1).free.ok:=zmT hk hok hf
     unfold zX smallC zaj
     rw [if_pos eE,if_pos eE,if_pos eE,if_pos h1,eE]
     unfold zi7 zcd at *
     rw [if_pos h1] at hgp
     rw [if_pos h1,if_pos h1,eR]
     rw [eR] at hgp
     have hgl:((((zL g 1)).free.at_ 1).drop (leftOf (((zL g 1)).free.at_ 1).length 2)).reverse.length≤most:=by rw [List.length_reverse,List.length_drop];have:=zez okR 1;omega
     have sp:=zdt ((zL g 1)).free c 1 2 ⟨by decide,by decide⟩ (by decide) (by decide) okR hco (by rw [h1];exact zez okR 1)
     rw [h1,List.nil_append] at sp
     show ADCall ..
     refine .mk _ _ (sp) rfl ?_
     have sq:=zck (c.set_ 1 ((((zL g 1)).free.at_ 1).drop (leftOf (((zL g 1)).free.at_ 1).length 2)).reverse) 1 ⟨by decide,by decide⟩ (zed hco hgl) (by rw [za0 ⟨by decide,by decide⟩];exact hgp)
     rw [zfT,za0 ⟨by decide,by decide⟩] at sq
     show ACall ..
     refine za (sq) rfl ?_
     show ARet ..
     exact ⟨[(16,16)],[(16,.vars (frV { (zL g 1) with free:=((zL g 1)).free.set_ 1 ((((zL g 1)).free.at_ 1).take (leftOf (((zL g 1)).free.at_ 1).length 2)) } (c.set_ 1 ((((((zL g 1)).free.at_ 1).drop (leftOf (((zL g 1)).free.at_ 1).length 2)).reverse).take ((((((zL g 1)).free.at_ 1).drop (leftOf (((zL g 1)).free.at_ 1).length 2)).reverse).length - 1)))))],[.int (at0 ((((zL g 1)).free.at_ 1).drop (leftOf (((zL g 1)).free.at_ 1).length 2)).reverse (((((zL g 1)).free.at_ 1).drop (leftOf (((zL g 1)).free.at_ 1).length 2)).reverse.length - 1)),.int 0],.cons _ _ _ _ .same (.cons _ _ _ _ .same .nil),.old 16 16 _ _ _ rfl rfl (.vars _ _ (zb rfl)) .nil,rfl,rfl,rfl⟩
    ·rw [he]
     show ABr ..
     refine ⟨fun _=>?_,fun h=>absurd h (by decide)⟩
     have eE:zQ g c 1=4:=by unfold zQ;rw [if_pos ⟨h1,h2⟩];exact he
     obtain ⟨e1,e2,e3,_⟩:=zjY (g:=g) (c:=c) (k:=1) (by rw [eE];decide)
     have eP:zL g 1=g:=by
      cases hfp:zaT g.pages 1 with
      | none=>exact (zaV hfp 1).1
      | some i=>rw [(zaX hfp 1).2] at he;cases he
     rw [e1,e2,e3,eE,eP]
     show ARet ..
     exact ⟨[(16,16)],[(16,.vars (frV g c))],[.int 0,.int 4],.cons _ _ _ _ .same (.cons _ _ _ _ .same .nil),.old 16 16 _ _ _ rfl rfl (.vars _ _ (zb rfl)) .nil,rfl,rfl,rfl⟩
   ·have h2' : g.free.l1≠[]:=h2
    rw [show decide (((g.free.l1).length:Int)=0)=false from decide_eq_false fun q=>h2' (List.eq_nil_of_length_eq_zero (by omega))]
    show ABr ..
    refine ⟨fun h=>absurd h (by decide),fun _=>?_⟩
    have eE:zQ g c 1=0:=by unfold zQ;rw [if_neg fun q=>h2 q.2]
    have eR:refG g c 1=g:=by unfold refG;rw [if_neg fun q=>h2 q.2]
    have hgp:=zcn hk eE
    have okR:=hok
    unfold zX smallC zaj
    rw [if_pos eE,if_pos eE,if_pos eE,if_pos h1,eE]
    unfold zi7 zcd at *
    rw [if_pos h1] at hgp
    rw [if_pos h1,if_pos h1,eR]
    rw [eR] at hgp
    have hgl:(((g).free.at_ 1).drop (leftOf ((g).free.at_ 1).length 2)).reverse.length≤most:=by rw [List.length_reverse,List.length_drop];have:=zez okR 1;omega
    have sp:=zdt (g).free c 1 2 ⟨by decide,by decide⟩ (by decide) (by decide) okR hco (by rw [h1];exact zez okR 1)
    rw [h1,List.nil_append] at sp
    show ADCall ..
    refine .mk _ _ (sp) rfl ?_
    have sq:=zck (c.set_ 1 (((g).free.at_ 1).drop (leftOf ((g).free.at_ 1).length 2)).reverse) 1 ⟨by decide,by decide⟩ (zed hco hgl) (by rw [za0 ⟨by decide,by decide⟩];exact hgp)
    rw [zfT,za0 ⟨by decide,by decide⟩] at sq
    show ACall ..
    refine za (sq) rfl ?_
    show ARet ..
    exact ⟨[(16,16)],[(16,.vars (frV { g with free:=(g).free.set_ 1 (((g).free.at_ 1).take (leftOf ((g).free.at_ 1).length 2)) } (c.set_ 1 (((((g).free.at_ 1).drop (leftOf ((g).free.at_ 1).length 2)).reverse).take (((((g).free.at_ 1).drop (leftOf ((g).free.at_ 1).length 2)).reverse).length - 1)))))],[.int (at0 (((g).free.at_ 1).drop (leftOf ((g).free.at_ 1).length 2)).reverse ((((g).free.at_ 1).drop (leftOf ((g).free.at_ 1).length 2)).reverse.length - 1)),.int 0],.cons _ _ _ _ .same (.cons _ _ _ _ .same .nil),.old 16 16 _ _ _ rfl rfl (.vars _ _ (zb rfl)) .nil,rfl,rfl,rfl⟩
  ·have h1' : c.l1≠[]:=h1
   rw [show decide (((c.l1).length:Int)=0)=false from decide_eq_false fun q=>h1' (List.eq_nil_of_length_eq_zero (by omega))]
   show ABr ..
   refine ⟨fun h=>absurd h (by decide),fun _=>?_⟩
   have eE:zQ g c 1=0:=by unfold zQ;rw [if_neg fun q=>h1 q.1]
   have hgp:=zcn hk eE
   unfold zX smallC zaj
   rw [if_pos eE,if_pos eE,if_pos eE,if_neg h1,eE]
   unfold zcd at *
   rw [if_neg h1] at hgp
   rw [if_neg h1]
   show ACall ..
   refine za (zck c 1 ⟨by decide,by decide⟩ hco hgp) rfl ?_
   show ARet ..
   exact ⟨[(16,16)],[(16,.vars (frV g (c.set_ 1 ((c.at_ 1).take ((c.at_ 1).length - 1)))))],[.int (at0 (c.at_ 1) ((c.at_ 1).length - 1)),.int 0],.cons _ _ _ _ .same (.cons _ _ _ _ .same .nil),.old 16 16 _ _ _ rfl rfl (.vars _ _ (zb rfl)) .nil,rfl,rfl,rfl⟩
 ·show AOb ..
  refine ⟨by decide,?_⟩
  show ABr (decide (((c.l2).length:Int)=0)) _ _
  by_cases h1:c.at_ 2=[]
  ·have h1' : c.l2=[]:=h1
   rw [show decide (((c.l2).length:Int)=0)=true by rw [h1'];rfl]
   show ABr ..
   refine ⟨fun _=>?_,fun h=>absurd h (by decide)⟩
   show AOb ..
   refine ⟨by decide,?_⟩
   show ABr (decide (((g.free.l2).length:Int)=0)) _ _
   by_cases h2:g.free.at_ 2=[]
   ·have h2' : g.free.l2=[]:=h2
    rw [show decide (((g.free.l2).length:Int)=0)=true by rw [h2'];rfl]
    show ABr ..
    refine ⟨fun _=>?_,fun h=>absurd h (by decide)⟩
    show ACall ..
    refine .hand [(16,16)] [(16,.vars (frV g c))] [.c (.ptr 16 0 0),.int 2] _ (.cons _ _ _ _ (.c _ _ (.ptr _ _ _ _ rfl)) (.cons _ _ _ _ .same .nil)) (.old 16 16 _ _ _ rfl rfl (.vars _ _ (zb rfl)) .nil) rfl (zg1 g c 2 hs hk hok hf) ?_
    rintro H r ⟨rfl,rfl⟩ _ _
    refine ⟨rfl,.inl rfl,?_⟩
    show ABr (zdX g != 0) _ _
    rcases zdZ g with he | he
    ·rw [he]
     show ABr ..
     refine ⟨fun h=>absurd h (by decide),fun _=>?_⟩
     have eE:zQ g c 2=0:=by unfold zQ;rw [if_pos ⟨h1,h2⟩];exact he
     have eR:refG g c 2=zL g 2:=by unfold refG;rw [if_pos ⟨h1,h2⟩]
     have hgp:=zcn hk eE
     have okR:(zL g 2).free.ok:=zmT hk hok hf
     unfold zX smallC zaj
     rw [if_pos eE,if_pos eE,if_pos eE,if_pos h1,eE]
     unfold zi7 zcd at *
     rw [if_pos h1] at hgp
     rw [if_pos h1,if_pos h1,eR]
     rw [eR] at hgp
     have hgl:((((zL g 2)).free.at_ 2).drop (leftOf (((zL g 2)).free.at_ 2).length 2)).reverse.length≤most:=by rw [List.length_reverse,List.length_drop];have:=zez okR 2;omega
     have sp:=zdt ((zL g 2)).free c 2 2 ⟨by decide,by decide⟩ (by decide) (by decide) okR hco (by rw [h1];exact zez okR 2)
     rw [h1,List.nil_append] at sp
     show ADCall ..
     refine .mk _ _ (sp) rfl ?_
     have sq:=zck (c.set_ 2 ((((zL g 2)).free.at_ 2).drop (leftOf (((zL g 2)).free.at_ 2).length 2)).reverse) 2 ⟨by decide,by decide⟩ (zed hco hgl) (by rw [za0 ⟨by decide,by decide⟩];exact hgp)
     rw [zfT,za0 ⟨by decide,by decide⟩] at sq
     show ACall ..
     refine za (sq) rfl ?_
     show ARet ..
     exact ⟨[(16,16)],[(16,.vars (frV { (zL g 2) with free:=((zL g 2)).free.set_ 2 ((((zL g 2)).free.at_ 2).take (leftOf (((zL g 2)).free.at_ 2).length 2)) } (c.set_ 2 ((((((zL g 2)).free.at_ 2).drop (leftOf (((zL g 2)).free.at_ 2).length 2)).reverse).take ((((((zL g 2)).free.at_ 2).drop (leftOf (((zL g 2)).free.at_ 2).length 2)).reverse).length - 1)))))],[.int (at0 ((((zL g 2)).free.at_ 2).drop (leftOf (((zL g 2)).free.at_ 2).length 2)).reverse (((((zL g 2)).free.at_ 2).drop (leftOf (((zL g 2)).free.at_ 2).length 2)).reverse.length - 1)),.int 0],.cons _ _ _ _ .same (.cons _ _ _ _ .same .nil),.old 16 16 _ _ _ rfl rfl (.vars _ _ (zb rfl)) .nil,rfl,rfl,rfl⟩
    ·rw [he]
     show ABr ..
     refine ⟨fun _=>?_,fun h=>absurd h (by decide)⟩
     have eE:zQ g c 2=4:=by unfold zQ;rw [if_pos ⟨h1,h2⟩];exact he
     obtain ⟨e1,e2,e3,_⟩:=zjY (g:=g) (c:=c) (k:=2) (by rw [eE];decide)
     have eP:zL g 2=g:=by
      cases hfp:zaT g.pages 1 with
      | none=>exact (zaV hfp 2).1
      | some i=>rw [(zaX hfp 2).2] at he;cases he
     rw [e1,e2,e3,eE,eP]
     show ARet ..
     exact ⟨[(16,16)],[(16,.vars (frV g c))],[.int 0,.int 4],.cons _ _ _ _ .same (.cons _ _ _ _ .same .nil),.old 16 16 _ _ _ rfl rfl (.vars _ _ (zb rfl)) .nil,rfl,rfl,rfl⟩
   ·have h2' : g.free.l2≠[]:=h2
    rw [show decide (((g.free.l2).length:Int)=0)=false from decide_eq_false fun q=>h2' (List.eq_nil_of_length_eq_zero (by omega))]
    show ABr ..
    refine ⟨fun h=>absurd h (by decide),fun _=>?_⟩
    have eE:zQ g c 2=0:=by unfold zQ;rw [if_neg fun q=>h2 q.2]
    have eR:refG g c 2=g:=by unfold refG;rw [if_neg fun q=>h2 q.2]
    have hgp:=zcn hk eE
    have okR:=hok
    unfold zX smallC zaj
    rw [if_pos eE,if_pos eE,if_pos eE,if_pos h1,eE]
    unfold zi7 zcd at *
    rw [if_pos h1] at hgp
    rw [if_pos h1,if_pos h1,eR]
    rw [eR] at hgp
    have hgl:(((g).free.at_ 2).drop (leftOf ((g).free.at_ 2).length 2)).reverse.length≤most:=by rw [List.length_reverse,List.length_drop];have:=zez okR 2;omega
    have sp:=zdt (g).free c 2 2 ⟨by decide,by decide⟩ (by decide) (by decide) okR hco (by rw [h1];exact zez okR 2)
    rw [h1,List.nil_append] at sp
    show ADCall ..
    refine .mk _ _ (sp) rfl ?_
    have sq:=zck (c.set_ 2 (((g).free.at_ 2).drop (leftOf ((g).free.at_ 2).length 2)).reverse) 2 ⟨by decide,by decide⟩ (zed hco hgl) (by rw [za0 ⟨by decide,by decide⟩];exact hgp)
    rw [zfT,za0 ⟨by decide,by decide⟩] at sq
    show ACall ..
    refine za (sq) rfl ?_
    show ARet ..
    exact ⟨[(16,16)],[(16,.vars (frV { g with free:=(g).free.set_ 2 (((g).free.at_ 2).take (leftOf ((g).free.at_ 2).length 2)) } (c.set_ 2 (((((g).free.at_ 2).drop (leftOf ((g).free.at_ 2).length 2)).reverse).take (((((g).free.at_ 2).drop (leftOf ((g).free.at_ 2).length 2)).reverse).length - 1)))))],[.int (at0 (((g).free.at_ 2).drop (leftOf ((g).free.at_ 2).length 2)).reverse ((((g).free.at_ 2).drop (leftOf ((g).free.at_ 2).length 2)).reverse.length - 1)),.int 0],.cons _ _ _ _ .same (.cons _ _ _ _ .same .nil),.old 16 16 _ _ _ rfl rfl (.vars _ _ (zb rfl)) .nil,rfl,rfl,rfl⟩
  ·have h1' : c.l2≠[]:=h1
   rw [show decide (((c.l2).length:Int)=0)=false from decide_eq_false fun q=>h1' (List.eq_nil_of_length_eq_zero (by omega))]
   show ABr ..
   refine ⟨fun h=>absurd h (by decide),fun _=>?_⟩
   have eE:zQ g c 2=0:=by unfold zQ;rw [if_neg fun q=>h1 q.1]
   have hgp:=zcn hk eE
   unfold zX smallC zaj
   rw [if_pos eE,if_pos eE,if_pos eE,if_neg h1,eE]
   unfold zcd at *
   rw [if_neg h1] at hgp
   rw [if_neg h1]
   show ACall ..
   refine za (zck c 2 ⟨by decide,by decide⟩ hco hgp) rfl ?_
   show ARet ..
   exact ⟨[(16,16)],[(16,.vars (frV g (c.set_ 2 ((c.at_ 2).take ((c.at_ 2).length - 1)))))],[.int (at0 (c.at_ 2) ((c.at_ 2).length - 1)),.int 0],.cons _ _ _ _ .same (.cons _ _ _ _ .same .nil),.old 16 16 _ _ _ rfl rfl (.vars _ _ (zb rfl)) .nil,rfl,rfl,rfl⟩
set_option maxRecDepth 60000 in
set_option maxHeartbeats 4000000 in
theorem zoi (g : Hp) (c : Lists) (n : Int) (hs : zE g = true) (hn : n ≤ 63) (hr : 1 ≤ za1 n ∧ za1 n ≤ 4) : Spec X 233 [(16, .vars (frV g c))] [.c (.ptr 16 0 0), .int n] (fun H r => H = [(16, .vars (frV (zaF g n) c))] ∧ r = .tup [.int (zaJ g n), .int (zb3 g n)]) := by
  refine zd X_ok Tryz.f233 (by kernel_rfl) (by kernel_rfl) (by kernel_rfl) fun hb hH => ⟨rfl, ?_⟩
  obtain ⟨hmw, hmp, hwl, hcl, _, h64⟩ := zr hs
  obtain ⟨m, em⟩ : ∃ m : Nat, za1 n = (m : Int) := ⟨(za1 n).toNat, by omega⟩
  show ACall _ _ _ _ _ _
  refine za (zl1 n (by omega)) rfl ?_
  have eI : zdG g n = zaT g.pages m := by unfold zdG; rw [em]; rfl
  rw [em]
  show ACall _ _ _ _ _ _
  refine za (zkG g.pages m hmp (by omega) (by omega)) rfl ?_
  cases hf : zaT g.pages m with
  | none =>
    obtain ⟨e1, e2, e3⟩ := zgT (eI.trans hf)
    rw [e1, e2, e3]
    show ABr _ _ _
    refine ⟨fun _ => ?_, fun h => absurd h (by decide)⟩
    show ARet _ _ _
    exact ⟨[(16, 16)], [(16, .vars (frV g c))], [.int 0, .int 4], .cons _ _ _ _ .same (.cons _ _ _ _ .same .nil), .old 16 16 _ _ _ rfl rfl (.vars _ _ (zb rfl)) .nil, rfl, rfl, rfl⟩
  | some i =>
    obtain ⟨e1, e2, e3⟩ := zgH (eI.trans hf)
    obtain ⟨hfr, hil⟩ := zbF hf
    rw [e1, e2, e3]
    show ABr _ _ _
    refine ⟨fun h => absurd h (by simp), fun _ => ?_⟩
    show ACall _ _ _ _ _ _
    refine za (zoL g.pages i m hmp (by omega) (by omega) hfr) rfl ?_
    show ACall _ _ _ _ _ _
    refine za (zul g.w i hmw (by omega)) rfl ?_
    rw [em]
    show ARet _ _ _
    exact ⟨[(16, 16)], [(16, .vars (frV { g with pages := zbm g.pages i (⟨2, (m : Int)⟩ :: List.replicate ((m : Int).toNat - 1) ⟨3, 0⟩) } c))], [.int (16 * ((i : Int) + 1)), .int 0], .cons _ _ _ _ .same (.cons _ _ _ _ .same .nil), .old 16 16 _ _ _ rfl rfl (.vars _ _ (zb rfl)) .nil, rfl, rfl, rfl⟩
theorem zsH (g:Hp) (hs:g.small):Spec X 231 [] [g.tv] (Ret [] g.tv):=by
 refine zd X_ok Tryz.f231 (by kernel_rfl) (by kernel_rfl) (by kernel_rfl) fun hb hH=>⟨rfl,?_⟩
 obtain ⟨h1,h2,h3,h4,h5,h6⟩:=hs
 show ADCall ..
 refine .mk _ _ (ze g.w h1) rfl ?_
 show ADCall ..
 refine .mk _ _ (zW g.pages h2) rfl ?_
 show ADCall ..
 refine .mk _ _ (zaf g.cards h3) rfl ?_
 show ∃ n,_
 refine ⟨4,?_⟩
 show ALoop ..
 refine .next ?_
 show ABr ..
 refine ⟨fun _=>?_,fun h=>absurd h (by decide)⟩
 show AOb ..
 refine ⟨by decide,?_⟩
 show ACall ..
 refine za (ze g.free.l0 h4) rfl ?_
 show AOb ..
 refine ⟨by decide,?_⟩
 show ALoop ..
 refine .next ?_
 show ABr ..
 refine ⟨fun _=>?_,fun h=>absurd h (by decide)⟩
 show AOb ..
 refine ⟨by decide,?_⟩
 show ACall ..
 refine za (ze g.free.l1 h5) rfl ?_
 show AOb ..
 refine ⟨by decide,?_⟩
 show ALoop ..
 refine .next ?_
 show ABr ..
 refine ⟨fun _=>?_,fun h=>absurd h (by decide)⟩
 show AOb ..
 refine ⟨by decide,?_⟩
 show ACall ..
 refine za (ze g.free.l2 h6) rfl ?_
 show AOb ..
 refine ⟨by decide,?_⟩
 show ALoop ..
 refine .next ?_
 show ABr ..
 refine ⟨fun h=>absurd h (by decide),fun _=>?_⟩
 show ARet ..
 exact zi rfl ⟨rfl,rfl⟩
theorem zdI (e:Int):Spec X 230 [] [.int e] (Ret [] (.tup [Hp.zero.tv,Lists.zero.tv,.int 0,.int e])):=by
 refine zd X_ok Tryz.f230 (by kernel_rfl) (by kernel_rfl) (by kernel_rfl) fun hb hH=>⟨rfl,?_⟩
 show ARet ..
 exact ⟨[],[],[Hp.zero.tv,Lists.zero.tv,.int 0,.int e],.cons _ _ _ _ (.agg _ _ (.cons _ _ _ _ (.nilsl .int) (.cons _ _ _ _ (.nilsl .page) (.cons _ _ _ _ (.nilsl .int) (.cons _ _ _ _ (.nilsl .int) (.cons _ _ _ _ (.nilsl .int) (.cons _ _ _ _ (.nilsl .bool) .nil))))))) (.cons _ _ _ _ (.agg _ _ (.cons _ _ _ _ (.nilsl .int) (.cons _ _ _ _ (.nilsl .int) (.cons _ _ _ _ (.nilsl .int) .nil)))) (.cons _ _ _ _ .same (.cons _ _ _ _ .same .nil))),.nil,rfl,rfl,rfl⟩
end Go.Abs
namespace Go.Abs
open Go.Proofs Go.Proofs.YtlankjlnnimdoaaGreatDoor
set_option maxRecDepth 8000
theorem zrN (l:Lists) (k:Int):(l.at_ k).length≤l.flat.length:=by
 unfold Lists.at_ Lists.flat
 rw [List.length_append,List.length_append]
 split
 ·omega
 ·split <;> omega
theorem zf3 {g:Hp} {c:Lists} (h:(zm (zdV g [c])).length≤most) (k:Int):(g.free.at_ k).length+(c.at_ k).length≤most:=by
 have e:zm (zdV g [c])=g.free.flat ++ (c.flat ++ zm []):=rfl
 rw [e,List.length_append,List.length_append] at h
 have:=zrN g.free k
 have:=zrN c k
 omega
theorem zlt {x:Hd} (h:zch x=0):zge x=x.word:=by
 unfold zch at h
 unfold zge
 by_cases hm:x.May
 ·rw [if_pos hm]
 ·rw [if_neg hm] at h;cases h
set_option maxRecDepth 60000 in
set_option maxHeartbeats 4000000 in
theorem zsK (g : Hp) (c : Lists) (x : Hd) (hs : g.small) (hco : c.ok) (hlm : (zm (zdV g [c])).length ≤ most) : Spec X 191 [] [g.tv, c.tv, x.tv] (Ret [] (.tup [(zfk g c x).tv, (takeC g c x).tv, .int (zhK g c x), .int (zaD g c x)])) := by
  refine Spec.fz (zd zjt Tryz.f191 (by kernel_rfl) (by kernel_rfl) (by kernel_rfl) fun hb hH => ⟨rfl, ?_⟩)
  show ACall _ _ _ _ _ _
  refine za ((zj0 x).uz) rfl ?_
  by_cases h1 : zch x ≠ 0 ∨ x.used = false
  · have hb1 : (bif zch x != 0 then true else !x.used) = true := by
      rcases h1 with h | h
      · rw [show (zch x != 0) = true by simpa using h]; rfl
      · rw [h]; cases (zch x != 0) <;> rfl
    show AIf ((bif zch x != 0 then true else !x.used) = false ∧ True) _ _
    rw [hb1]
    show AIf _ _ _
    refine ⟨fun h => absurd h.1 (by decide), fun _ => ?_⟩
    show AOb _ _
    refine ⟨by decide, ?_⟩
    show ABr _ _ _
    refine ⟨fun _ => ?_, fun h => absurd h (by decide)⟩
    have eE : zaD g c x = 1 := by unfold zaD; rw [if_pos (h1.elim .inl fun q => .inr (.inl q))]
    show ACall _ _ _ _ _ _
    refine za ((zdI 1).uz) rfl ?_
    have hne : zaD g c x ≠ 0 := by rw [eE]; decide
    rw [(zbn hne).1, (zbn hne).2.1, (zbn hne).2.2, eE]
    show ARet _ _ _
    exact zi rfl ⟨rfl, rfl⟩
  · have hb1 : (bif zch x != 0 then true else !x.used) = false := by
      cases hu : x.used with
      | false => exact absurd (.inr hu) h1
      | true =>
        by_cases hp : zch x = 0
        · rw [hp]; rfl
        · exact absurd (.inl hp) h1
    show AIf ((bif zch x != 0 then true else !x.used) = false ∧ True) _ _
    rw [hb1]
    show AIf _ _ _
    refine ⟨fun _ => ?_, fun h => absurd ⟨(by rfl), trivial⟩ h⟩
    show ACall _ _ _ _ _ _
    refine za ((zdN g [c] hlm (by unfold most; simp)).uz) rfl ?_
    cases hm : zz g [c] with
    | false =>
      show ABr _ _ _
      refine ⟨fun _ => ?_, fun h => absurd h (by decide)⟩
      have eE : zaD g c x = 1 := by unfold zaD; rw [if_pos (.inr (.inr hm))]
      show ACall _ _ _ _ _ _
      refine za ((zdI 1).uz) rfl ?_
      have hne : zaD g c x ≠ 0 := by rw [eE]; decide
      rw [(zbn hne).1, (zbn hne).2.1, (zbn hne).2.2, eE]
      show ARet _ _ _
      exact zi rfl ⟨rfl, rfl⟩
    | true =>
      show ABr _ _ _
      refine ⟨fun h => absurd h (by decide), fun _ => ?_⟩
      have hsh := zM hm
      have e0 : zaD g c x = if zaE x.n ≠ 0 then zaE x.n else if zH x.n = 3 then zb3 g x.n else zQ g c (zH x.n) := by
        unfold zaD
        rw [if_neg (fun q => q.elim (fun q => h1 (.inl q)) fun q => q.elim (fun q => h1 (.inr q)) fun q => by rw [hm] at q; cases q)]
      show ACall _ _ _ _ _ _
      refine za ((zht x.n).uz) rfl ?_
      by_cases h2 : zaE x.n = 0
      · rw [if_neg (fun q => q h2)] at e0
        show ABr (zaE x.n != 0) _ _
        rw [show (zaE x.n != 0) = false by rw [h2]; rfl]
        show ABr _ _ _
        refine ⟨fun h => absurd h (by decide), fun _ => ?_⟩
        obtain ⟨c1, c2, c3, c4, c5⟩ := zmk h2
        show ADCall _ _ _ _ _ _
        refine .mk _ _ ((zsH g hs).uz) rfl ?_
        show ∃ n, _
        refine ⟨4, ?_⟩
        show ALoop _ _ _ _
        refine .next ?_
        show ABr _ _ _
        refine ⟨fun _ => ?_, fun h => absurd h (by decide)⟩
        show AOb _ _
        refine ⟨by decide, ?_⟩
        show ADCall _ _ _ _ _ _
        refine .mk _ _ ((ze c.l0 hco.1).uz) rfl ?_
        show AOb _ _
        refine ⟨by decide, ?_⟩
        show ALoop _ _ _ _
        refine .next ?_
        show ABr _ _ _
        refine ⟨fun _ => ?_, fun h => absurd h (by decide)⟩
        show AOb _ _
        refine ⟨by decide, ?_⟩
        show ADCall _ _ _ _ _ _
        refine .mk _ _ ((ze c.l1 hco.2.1).uz) rfl ?_
        show AOb _ _
        refine ⟨by decide, ?_⟩
        show ALoop _ _ _ _
        refine .next ?_
        show ABr _ _ _
        refine ⟨fun _ => ?_, fun h => absurd h (by decide)⟩
        show AOb _ _
        refine ⟨by decide, ?_⟩
        show ADCall _ _ _ _ _ _
        refine .mk _ _ ((ze c.l2 hco.2.2).uz) rfl ?_
        show AOb _ _
        refine ⟨by decide, ?_⟩
        show ALoop _ _ _ _
        refine .next ?_
        show ABr _ _ _
        refine ⟨fun h => absurd h (by decide), fun _ => ?_⟩
        show ABr (zH x.n == 3) _ _
        by_cases h3 : zH x.n = 3
        · rw [if_pos h3] at e0
          rw [show (zH x.n == 3) = true by simpa using h3]
          show ABr _ _ _
          refine ⟨fun _ => ?_, fun h => absurd h (by decide)⟩
          show ACall _ _ _ _ _ _
          refine .hand [(1408, 16)] [(16, .vars (frV g c))] [.c (.ptr 16 0 0), .int x.n] _ (.cons _ _ _ _ (.c _ _ (.ptr _ _ _ _ rfl)) (.cons _ _ _ _ .same .nil)) (.old 16 1408 _ _ _ rfl rfl (.vars _ _ (zb rfl)) .nil) rfl (zoi g c x.n hsh c2 ⟨(c5 h3).1, (c5 h3).2.1⟩).uz ?_
          rintro H r ⟨rfl, rfl⟩ _ _
          refine ⟨rfl, .inl rfl, ?_⟩
          show ABr ((zb3 g x.n) != 0) _ _
          by_cases hE : zaD g c x = 0
          · rw [show ((zb3 g x.n) != 0) = false by rw [← e0, hE]; rfl]
            show ABr _ _ _
            refine ⟨fun h => absurd h (by decide), fun _ => ?_⟩
            have hc := zkL hE
            unfold zkT zky at hc
            rw [if_pos h3, if_pos h3] at hc
            obtain ⟨k1, k2, k3, _, k5, _⟩ := hc
            obtain ⟨hmw, hmp, hwl, hcl, _, h64⟩ := zr hsh
            have hkw : zbg (zaF g x.n).w = true := by unfold zbg at hmw ⊢; rw [k3]; exact hmw
            have hce := zan (zx k1)
            have hce1 : 16 ≤ (zaJ g x.n) := hce.1
            have hce2 : 0 < zf (zaF g x.n).pages (zaJ g x.n) := hce.2.1
            have hce3 : (zaJ g x.n) + zf (zaF g x.n).pages (zaJ g x.n) ≤ 16 * (((zaF g x.n).pages.length : Int) + 1) := hce.2.2
            have hzl : (zK (zaF g x.n).w ((zaJ g x.n) - 16).toNat (List.replicate (zf (zaF g x.n).pages (zaJ g x.n)).toNat (0 : Int))).length = (zaF g x.n).w.length := zcP _ _ _ (by rw [List.length_replicate]; omega)
            show ADCall _ _ _ _ _ _
            refine .mk _ _ ((zei (zaF g x.n).pages (zaJ g x.n)).uz) rfl ?_
            show ADCall _ _ _ _ _ _
            refine .mk _ _ ((zgW (zaF g x.n).w (zaJ g x.n) (zf (zaF g x.n).pages (zaJ g x.n)) hkw ⟨hce1, hce2, by omega⟩).uz) rfl ?_
            have hkz : zbg (zK (zaF g x.n).w ((zaJ g x.n) - 16).toNat (List.replicate (zf (zaF g x.n).pages (zaJ g x.n)).toNat (0 : Int))) = true := by unfold zbg at hkw ⊢; rw [hzl]; exact hkw
            show ACall _ _ _ _ _ _
            refine za ((zeg (zK (zaF g x.n).w ((zaJ g x.n) - 16).toNat (List.replicate (zf (zaF g x.n).pages (zaJ g x.n)).toNat (0 : Int))) (zaJ g x.n) (zge x) hkz (by rw [hzl]; omega)).uz) rfl ?_
            have hpw : zge x = x.word := zlt k5
            rw [hpw]
            obtain ⟨t1, t2, t3⟩ := zkM hE
            rw [t1, t2, t3, hE]
            unfold zkT zky ztN
            rw [if_pos h3, if_pos h3, if_pos h3]
            show ARet _ _ _
            exact zi rfl ⟨rfl, rfl⟩
          · rw [show ((zb3 g x.n) != 0) = true by rw [← e0]; simpa using hE]
            show ABr _ _ _
            refine ⟨fun _ => ?_, fun h => absurd h (by decide)⟩
            have eE : zaD g c x = (zb3 g x.n) := e0
            show ACall _ _ _ _ _ _
            refine za ((zdI (zb3 g x.n)).uz) rfl ?_
            have hne : zaD g c x ≠ 0 := by rw [eE]; rw [← eE]; exact hE
            rw [(zbn hne).1, (zbn hne).2.1, (zbn hne).2.2, eE]
            show ARet _ _ _
            exact zi rfl ⟨rfl, rfl⟩
        · rw [if_neg h3] at e0
          rw [show (zH x.n == 3) = false by simpa using h3]
          show ABr _ _ _
          refine ⟨fun h => absurd h (by decide), fun _ => ?_⟩
          have hfl : (g.free.at_ (zH x.n)).length ≤ 512 := zk2 (zbQ hm) _
          have hcl : (c.at_ (zH x.n)).length ≤ most := zez hco _
          show ACall _ _ _ _ _ _
          refine .hand [(1408, 16)] [(16, .vars (frV g c))] [.c (.ptr 16 0 0), .int (zH x.n)] _ (.cons _ _ _ _ (.c _ _ (.ptr _ _ _ _ rfl)) (.cons _ _ _ _ .same .nil)) (.old 16 1408 _ _ _ rfl rfl (.vars _ _ (zb rfl)) .nil) rfl (zo0 g c (zH x.n) hsh ⟨c3, by omega⟩ hs.2.2.2 hco (by unfold most; omega) (zf3 hlm _)).uz ?_
          rintro H r ⟨rfl, rfl⟩ _ _
          refine ⟨rfl, .inl rfl, ?_⟩
          show ABr ((zQ g c (zH x.n)) != 0) _ _
          by_cases hE : zaD g c x = 0
          · rw [show ((zQ g c (zH x.n)) != 0) = false by rw [← e0, hE]; rfl]
            show ABr _ _ _
            refine ⟨fun h => absurd h (by decide), fun _ => ?_⟩
            have hc := zkL hE
            unfold zkT zky at hc
            rw [if_neg h3, if_neg h3] at hc
            obtain ⟨k1, k2, k3, _, k5, _⟩ := hc
            obtain ⟨hmw, hmp, hwl, hcl, _, h64⟩ := zr hsh
            have hkw : zbg (zX g c (zH x.n)).w = true := by unfold zbg at hmw ⊢; rw [k3]; exact hmw
            have hce := zan (zx k1)
            have hce1 : 16 ≤ (zaj g c (zH x.n)) := hce.1
            have hce2 : 0 < zf (zX g c (zH x.n)).pages (zaj g c (zH x.n)) := hce.2.1
            have hce3 : (zaj g c (zH x.n)) + zf (zX g c (zH x.n)).pages (zaj g c (zH x.n)) ≤ 16 * (((zX g c (zH x.n)).pages.length : Int) + 1) := hce.2.2
            have hzl : (zK (zX g c (zH x.n)).w ((zaj g c (zH x.n)) - 16).toNat (List.replicate (zf (zX g c (zH x.n)).pages (zaj g c (zH x.n))).toNat (0 : Int))).length = (zX g c (zH x.n)).w.length := zcP _ _ _ (by rw [List.length_replicate]; omega)
            show ADCall _ _ _ _ _ _
            refine .mk _ _ ((zei (zX g c (zH x.n)).pages (zaj g c (zH x.n))).uz) rfl ?_
            show ADCall _ _ _ _ _ _
            refine .mk _ _ ((zgW (zX g c (zH x.n)).w (zaj g c (zH x.n)) (zf (zX g c (zH x.n)).pages (zaj g c (zH x.n))) hkw ⟨hce1, hce2, by omega⟩).uz) rfl ?_
            have hkz : zbg (zK (zX g c (zH x.n)).w ((zaj g c (zH x.n)) - 16).toNat (List.replicate (zf (zX g c (zH x.n)).pages (zaj g c (zH x.n))).toNat (0 : Int))) = true := by unfold zbg at hkw ⊢; rw [hzl]; exact hkw
            show ACall _ _ _ _ _ _
            refine za ((zeg (zK (zX g c (zH x.n)).w ((zaj g c (zH x.n)) - 16).toNat (List.replicate (zf (zX g c (zH x.n)).pages (zaj g c (zH x.n))).toNat (0 : Int))) (zaj g c (zH x.n)) (zge x) hkz (by rw [hzl]; omega)).uz) rfl ?_
            have hpw : zge x = x.word := zlt k5
            rw [hpw]
            obtain ⟨t1, t2, t3⟩ := zkM hE
            rw [t1, t2, t3, hE]
            unfold zkT zky ztN
            rw [if_neg h3, if_neg h3, if_neg h3]
            show ARet _ _ _
            exact zi rfl ⟨rfl, rfl⟩
          · rw [show ((zQ g c (zH x.n)) != 0) = true by rw [← e0]; simpa using hE]
            show ABr _ _ _
            refine ⟨fun _ => ?_, fun h => absurd h (by decide)⟩
            have eE : zaD g c x = (zQ g c (zH x.n)) := e0
            show ACall _ _ _ _ _ _
            refine za ((zdI (zQ g c (zH x.n))).uz) rfl ?_
            have hne : zaD g c x ≠ 0 := by rw [eE]; rw [← eE]; exact hE
            rw [(zbn hne).1, (zbn hne).2.1, (zbn hne).2.2, eE]
            show ARet _ _ _
            exact zi rfl ⟨rfl, rfl⟩
      · rw [if_pos h2] at e0
        show ABr (zaE x.n != 0) _ _
        rw [show (zaE x.n != 0) = true by simpa using h2]
        show ABr _ _ _
        refine ⟨fun _ => ?_, fun h => absurd h (by decide)⟩
        have eE : zaD g c x = zaE x.n := e0
        show ACall _ _ _ _ _ _
        refine za ((zdI (zaE x.n)).uz) rfl ?_
        have hne : zaD g c x ≠ 0 := by rw [eE]; exact h2
        rw [(zbn hne).1, (zbn hne).2.1, (zbn hne).2.2, eE]
        show ARet _ _ _
        exact zi rfl ⟨rfl, rfl⟩
end Go.Abs
namespace Go.Abs
open Go.Proofs Go.Proofs.YtlankjlnnimdoaaGreatDoor
set_option maxRecDepth 8000
def zeY (g:Hp) (c:Lists):Hp:={ g with free:=⟨g.free.l0 ++ c.l0,g.free.l1 ++ c.l1,g.free.l2 ++ c.l2⟩ }
def zpl (g:Hp) (i:Nat):Hp:=if (g.pages.getD i default).kind=1 then zdb g (i:Int) else g
def zkt (g:Hp):Nat→Hp
 | 0=>g
 | n+1=>zpl (zkt g n) n
def zfC (g:Hp) (c:Lists):Hp:=if zz g [c]=true then zkt (zeY g c) g.pages.length else Hp.zero
def zug (g:Hp) (c:Lists):Int:=if zz g [c]=true then 0 else 1
theorem zvD (g:Hp) (c:Lists) (k:Int):(zeY g c).free.at_ k=g.free.at_ k ++ c.at_ k:=by
 unfold Lists.at_ zeY
 split
 ·rfl
 ·split <;> rfl
theorem ztl (g:Hp) (c:Lists) (cs:List Lists):(zm ((zeY g c).free :: cs)).Perm (zm (g.free :: c :: cs)):=by
 have e1:zm ((zeY g c).free :: cs)=((g.free.l0 ++ c.l0) ++ (g.free.l1 ++ c.l1) ++ (g.free.l2 ++ c.l2)) ++ zm cs:=rfl
 have e2:zm (g.free :: c :: cs)=(g.free.l0 ++ g.free.l1 ++ g.free.l2) ++ ((c.l0 ++ c.l1 ++ c.l2) ++ zm cs):=rfl
 rw [e1,e2,List.perm_iff_count]
 intro a
 simp only [List.count_append]
 omega
theorem zpt {g:Hp} {c:Lists} {cs:List Lists} (hm:zz g (c :: cs)=true):zz (zeY g c) cs=true∧(zo g (c :: cs)=true→zo (zeY g c) cs=true):=by
 obtain ⟨m1,m2,m3,m4⟩:=zai hm
 have hp:=ztl g c cs
 have hmay:zz (zeY g c) cs=true:=by
  refine zdf m1 (fun l hl=>?_) m3 (hp.nodup_iff.2 m4)
  rcases List.mem_cons.1 hl with rfl | hl
  ·refine zF.2 fun d d0 d2 x hx=>?_
   rw [zvD] at hx
   rcases List.mem_append.1 hx with hx | hx
   ·exact zF.1 (m2 g.free (List.mem_cons_self ..)) d d0 d2 x hx
   ·exact zF.1 (m2 c (List.mem_cons_of_mem _ (List.mem_cons_self ..))) d d0 d2 x hx
  ·exact m2 l (List.mem_cons_of_mem _ (List.mem_cons_of_mem _ hl))
 refine ⟨hmay,fun hw=>?_⟩
 unfold zo at hw ⊢
 rw [hmay,Bool.true_and]
 rw [hm,Bool.true_and] at hw
 rw [List.all_eq_true] at hw ⊢
 intro u hu
 have:=hw u hu
 rw [Bool.or_eq_true] at this ⊢
 rcases this with k | k
 ·exact .inl k
 ·exact .inr (List.contains_iff_mem.2 (hp.mem_iff.2 (List.contains_iff_mem.1 k)))
theorem ziU {l:List Page} (hm:zas l=true) {i:Nat} (hi:i < l.length) (hk:(l.getD i default).kind=1):Drops l i:=⟨hm,hi,.inl hk⟩
structure Backed (g k:Hp) (cs:List Lists):Prop where
 may:zz k cs=true
 whole:zo g cs=true→zo k cs=true
 used:zam k=zam g
 cards:k.cards=g.cards
 w:k.w=g.w
 plen:k.pages.length=g.pages.length
 room:∀ u,zf k.pages u≠0→zf k.pages u=zf g.pages u
theorem zpF {g:Hp} {cs:List Lists} (hm:zz g cs=true) {i:Nat} (hi:i < g.pages.length):Backed g (zpl g i) cs:=by
 unfold zpl
 split
 ·rename_i hk
  obtain ⟨b1,b2,b3,b4,b5,b6,b7,_⟩:=zj1 hm (i:=(i:Int)) (by omega) (ziU (zr (zM hm)).2.1 hi hk) hk
  exact ⟨b1,b2,b3,b4,b5,b6,b7⟩
 ·exact ⟨hm,id,rfl,rfl,rfl,rfl,fun _ _=>rfl⟩
theorem Backed.trans {g k m:Hp} {cs:List Lists} (h:Backed g k cs) (h' : Backed k m cs):Backed g m cs:=
 ⟨h'.may,fun q=>h'.whole (h.whole q),h'.used.trans h.used,h'.cards.trans h.cards,h'.w.trans h.w,h'.plen.trans h.plen,fun u hu=>by
  have e:=h'.room u hu
  rw [e]
  exact h.room u (by rw [← e];exact hu)⟩
theorem zgG {g : Hp} {cs : List Lists} (hm : zz g cs = true) : ∀ n, n ≤ g.pages.length → Backed g (zkt g n) cs
  | 0, _ => ⟨hm, id, rfl, rfl, rfl, rfl, fun _ _ => rfl⟩
  | n + 1, hn => by
    have h := zgG hm n (by omega)
    exact h.trans (zpF h.may (by rw [h.plen]; omega))
theorem zpq (g:Hp) (i:Nat) (hi:i < g.pages.length) (hk:(g.pages.getD i default).kind≠1):Spec X 241 [(16,.vars (rkV g))] [.c (.ptr 16 0 0),.int (i:Int)] (fun H r=>H=[(16,.vars (rkV g))]∧r = .tup []):=by
 refine zd X_ok Tryz.f241 (by kernel_rfl) (by kernel_rfl) (by kernel_rfl) fun hb hH=>⟨rfl,?_⟩
 show AOb ((0:Int)≤(i:Int)∧(i:Int) < (g.pages.length:Int)) _
 refine ⟨by omega,?_⟩
 show ABr ((g.pages.getD i default).kind != 1) _ _
 rw [show ((g.pages.getD i default).kind != 1)=true by simpa using hk]
 show ABr ..
 refine ⟨fun _=>?_,fun h=>absurd h (by decide)⟩
 show ARet ..
 exact ⟨[(16,16)],[(16,.vars (rkV g))],[],.nil,.old 16 16 _ _ _ rfl rfl (.vars _ _ (zb rfl)) .nil,rfl,rfl,rfl⟩
theorem zn7 (g:Hp) (i:Nat) (hm:zas g.pages=true) (hi:i < g.pages.length) (hok:g.free.ok):Spec X 241 [(16,.vars (rkV g))] [.c (.ptr 16 0 0),.int (i:Int)] (fun H r=>H=[(16,.vars (rkV (zpl g i)))]∧r = .tup []):=by
 unfold zpl
 by_cases hk:(g.pages.getD i default).kind=1
 ·rw [if_pos hk]
  exact zk0 g (i:Int) (by omega) (ziU hm hi hk) hk hok
 ·rw [if_neg hk]
  exact zpq g i hi hk
theorem zu6 {g:Hp} (h:zz g []=true):g.free.ok:=by
 have e0:=zk2 h 0
 have e1:=zk2 h 1
 have e2:=zk2 h 2
 have e0:g.free.l0.length≤512:=e0
 have e1:g.free.l1.length≤512:=e1
 have e2:g.free.l2.length≤512:=e2
 refine ⟨?_,?_,?_⟩ <;> unfold most <;> omega
set_option maxRecDepth 60000 in
set_option maxHeartbeats 4000000 in
theorem zqo (g : Hp) (c : Lists) (hs : g.small) (hlm : (zm (zdV g [c])).length ≤ most) : Spec X 202 [] [g.tv, c.tv] (Ret [] (.tup [(zfC g c).tv, .int (zug g c)])) := by
  refine Spec.fz (zd zjt Tryz.f202 (by kernel_rfl) (by kernel_rfl) (by kernel_rfl) fun hb hH => ⟨rfl, ?_⟩)
  show ACall _ _ _ _ _ _
  refine za ((zdN g [c] hlm (by unfold most; simp)).uz) rfl ?_
  unfold zfC zug
  cases hm : zz g [c] with
  | false =>
    rw [if_neg (by decide), if_neg (by decide)]
    show ABr _ _ _
    refine ⟨fun _ => ?_, fun h => absurd h (by decide)⟩
    show ARet _ _ _
    exact ⟨[], [], [Hp.zero.tv, .int 1], .cons _ _ _ _ (.agg _ _ (.cons _ _ _ _ (.nilsl .int) (.cons _ _ _ _ (.nilsl .page) (.cons _ _ _ _ (.nilsl .int) (.cons _ _ _ _ (.nilsl .int) (.cons _ _ _ _ (.nilsl .int) (.cons _ _ _ _ (.nilsl .bool) .nil))))))) (.cons _ _ _ _ .same .nil), .nil, rfl, rfl, rfl⟩
  | true =>
    rw [if_pos rfl, if_pos rfl]
    show ABr _ _ _
    refine ⟨fun h => absurd h (by decide), fun _ => ?_⟩
    have hpm := (zpt hm).1
    have hpk := zu6 hpm
    have hmp := (zr (zM hm)).2.1
    have h64 := (zah hmp).2.2
    have s0 := zf3 hlm 0
    have s1 := zf3 hlm 1
    have s2 := zf3 hlm 2
    have o1 : (g.free.set_ 0 (g.free.at_ 0 ++ c.at_ 0)).ok := zed hs.2.2.2 (by rw [List.length_append]; omega)
    have o2 : ((g.free.set_ 0 (g.free.at_ 0 ++ c.at_ 0)).set_ 1 (g.free.at_ 1 ++ c.at_ 1)).ok := zed o1 (by rw [List.length_append]; omega)
    show ACall _ _ _ _ _ _
    refine .mk _ (zkp g hs).uz fun H r ⟨eH, er⟩ _ _ => ⟨.inl rfl, ?_⟩
    subst eH er
    show ∃ n, _
    refine ⟨4, ?_⟩
    show ALoop _ _ _ _
    refine .next ?_
    show ABr _ _ _
    refine ⟨fun _ => ?_, fun h => absurd h (by decide)⟩
    show AOb _ _
    refine ⟨by decide, ?_⟩
    show ACall _ _ _ _ _ _
    refine za ((zey g.free 0 c.l0 ⟨by decide, by decide⟩ hs.2.2.2 s0).uz) rfl ?_
    show ALoop _ _ _ _
    refine .next ?_
    show ABr _ _ _
    refine ⟨fun _ => ?_, fun h => absurd h (by decide)⟩
    show AOb _ _
    refine ⟨by decide, ?_⟩
    show ACall _ _ _ _ _ _
    refine za ((zey (g.free.set_ 0 (g.free.at_ 0 ++ c.at_ 0)) 1 c.l1 ⟨by decide, by decide⟩ o1 s1).uz) rfl ?_
    show ALoop _ _ _ _
    refine .next ?_
    show ABr _ _ _
    refine ⟨fun _ => ?_, fun h => absurd h (by decide)⟩
    show AOb _ _
    refine ⟨by decide, ?_⟩
    show ACall _ _ _ _ _ _
    refine za ((zey ((g.free.set_ 0 (g.free.at_ 0 ++ c.at_ 0)).set_ 1 (g.free.at_ 1 ++ c.at_ 1)) 2 c.l2 ⟨by decide, by decide⟩ o2 s2).uz) rfl ?_
    show ALoop _ _ _ _
    refine .next ?_
    show ABr _ _ _
    refine ⟨fun h => absurd h (by decide), fun _ => ?_⟩
    show ∃ n, _
    refine ⟨0, ALoop.inv (ι := {j : Nat // j ≤ g.pages.length}) (fun q => ⟨[(4, .c (.ptr 0 0 0)), (5, .int (0)), (6, .c (.ptr 1 0 0)), (44, .int ((g.pages.length : Int))), (45, .int ((q.1 : Int)))], [(0, .vars [.d .nilsl, .d .nilsl, .d .nilsl, .d .nilsl, .d .nilsl, .d .nilsl]), (1, .vars (rkV (zkt (zeY g c) q.1)))], 96⟩) (fun q => g.pages.length - q.1) ⟨0, Nat.zero_le _⟩ ?_ ?_⟩
    · exact ⟨[(96, 0), (352, 1)], (by repeat' first | exact .nil | refine .cons _ _ _ ?_ ?_ | exact .same | exact .c _ _ (.own _ _ rfl) | exact .c _ _ (.ptr _ _ _ _ rfl) | exact .c _ _ (.frz _ _ rfl) | exact .any _), (by exact .old 0 96 _ _ _ rfl rfl (.vars _ _ (zb rfl)) (.old 1 352 _ _ _ rfl rfl (.vars _ _ (zb rfl)) .nil)), (by rfl)⟩
    rintro ⟨j, hj⟩
    have hj : j ≤ g.pages.length := hj
    have bk := zgG hpm j hj
    have hjp : (zkt (zeY g c) j).pages.length = g.pages.length := bk.plen
    show ABr (decide ((j : Int) < (g.pages.length : Int))) _ _
    refine ⟨fun h => ?_, fun h => ?_⟩
    · have hjl : j < g.pages.length := by have := of_decide_eq_true h; omega
      have wj : IntKind.i64.wrap ((j : Int) + 1) = ((j + 1 : Nat) : Int) := zad (i := j) (by unfold zD; omega)
      show ACall _ _ _ _ _ _
      refine .hand [(1, 16)] [(16, .vars (rkV (zkt (zeY g c) j)))] [.c (.ptr 16 0 0), .int (j : Int)] _ (.cons _ _ _ _ (.c _ _ (.ptr _ _ _ _ rfl)) (.cons _ _ _ _ .same .nil)) (.old 16 1 _ _ _ rfl rfl (.vars _ _ (zb rfl)) .nil) rfl (zn7 (zkt (zeY g c) j) j (zr (zM bk.may)).2.1 (by rw [hjp]; exact hjl) (zu6 bk.may)).uz ?_
      rintro H r ⟨rfl, rfl⟩ _ _
      refine ⟨rfl, .inl rfl, ?_⟩
      show ARound _ _ _ _
      exact ⟨⟨j + 1, hjl⟩, (by dsimp only; omega), [(0, 0), (1, 1)], (by repeat' first | exact .nil | refine .cons _ _ _ ?_ ?_ | exact .int_eq wj | exact .same | exact .c _ _ (.own _ _ rfl) | exact .c _ _ (.ptr _ _ _ _ rfl) | exact .c _ _ (.frz _ _ rfl) | exact .any _), (by exact .old 0 0 _ _ _ rfl rfl (.vars _ _ (zb rfl)) (.old 1 1 _ _ _ rfl rfl (.vars _ _ (zb rfl)) .nil)), (by rfl)⟩
    · have hjl : j = g.pages.length := by have := of_decide_eq_false h; omega
      subst hjl
      show ARet _ _ _
      exact zi rfl ⟨rfl, rfl⟩
end Go.Abs
namespace Go.Abs
open Go.Proofs Go.Proofs.YtlankjlnnimdoaaGreatDoor
set_option maxRecDepth 8000
end Go.Abs
namespace Go.Abs
open Go.Proofs Go.Proofs.YtlankjlnnimdoaaGreatDoor
set_option maxRecDepth 8000
theorem zfQ (a b c:Int):Spec X 109 [] [.int a,.int b,.int c] (Ret [] (.bo (decide (a≥b) && decide (a≤c)))):=by
 refine zd X_ok Tryz.f109 (by kernel_rfl) (by kernel_rfl) (by kernel_rfl) fun _ _=>⟨rfl,?_⟩
 show ARet ..
 refine zw ?_ ⟨rfl,rfl⟩
 cases decide (a≥b) <;> rfl
def Thread.reg (t:Thread) (r:Int):Int:=if r=0 then t.r0 else if r=1 then t.r1 else if r=2 then t.r2 else t.r3
def Thread.setReg (t:Thread) (r a:Int):Thread:=if r=0 then { t with r0:=a } else if r=1 then { t with r1:=a } else if r=2 then { t with r2:=a } else { t with r3:=a }
theorem zkN (t:Thread) (r:Int) (h:0≤r∧r≤3):Spec X 182 [] [t.tv,.int r] (Ret [] (.tup [.int (t.reg r),.int 0])):=by
 refine zd X_ok Tryz.f182 (by kernel_rfl) (by kernel_rfl) (by kernel_rfl) fun _ _=>⟨rfl,?_⟩
 have hr:r=0∨r=1∨r=2∨r=3:=by omega
 rcases hr with rfl | rfl | rfl | rfl <;>
 ·show ACall ..
  refine za (zfQ _ _ _) rfl ?_
  show ABr ..
  refine ⟨fun hb=>absurd hb (by decide),fun _=>?_⟩
  show AOb ..
  refine ⟨by decide,?_⟩
  show ARet ..
  exact zi rfl ⟨rfl,rfl⟩
theorem znC (t:Thread) (r:Int) (h:¬ (0≤r∧r≤3)):Spec X 182 [] [t.tv,.int r] (Ret [] (.tup [.int 0,.int 1])):=by
 refine zd X_ok Tryz.f182 (by kernel_rfl) (by kernel_rfl) (by kernel_rfl) fun _ _=>⟨rfl,?_⟩
 show ACall ..
 refine za (zfQ _ _ _) rfl ?_
 show ABr ..
 refine ⟨fun hb=>?_,fun (hb:(!(decide (r≥0) && decide (r≤3)))=false)=>absurd hb (by simp;omega)⟩
 show ARet ..
 exact zi rfl ⟨rfl,rfl⟩
def Thread.ok (t:Thread):Prop:=t.ops.length≤most∧t.cache.l0.length≤most∧t.cache.l1.length≤most∧t.cache.l2.length≤most
theorem zux (t:Thread) (h:t.ok):Spec X 252 [] [t.tv] (Ret [] t.tv):=by
 refine zd X_ok Tryz.f252 (by kernel_rfl) (by kernel_rfl) (by kernel_rfl) fun _ _=>⟨rfl,?_⟩
 show ACall ..
 refine za (zbY t.ops h.1) rfl ?_
 show ∃ n,_
 refine ⟨4,.next ?_⟩
 show ABr ..
 refine ⟨fun _=>?_,fun hb=>absurd hb (by decide)⟩
 show AOb ..
 refine ⟨by decide,?_⟩
 show ACall ..
 refine za (ze t.cache.l0 h.2.1) rfl ?_
 show AOb ..
 refine ⟨by decide,?_⟩
 show ALoop ..
 refine .next ?_
 show ABr ..
 refine ⟨fun _=>?_,fun hb=>absurd hb (by decide)⟩
 show AOb ..
 refine ⟨by decide,?_⟩
 show ACall ..
 refine za (ze t.cache.l1 h.2.2.1) rfl ?_
 show AOb ..
 refine ⟨by decide,?_⟩
 show ALoop ..
 refine .next ?_
 show ABr ..
 refine ⟨fun _=>?_,fun hb=>absurd hb (by decide)⟩
 show AOb ..
 refine ⟨by decide,?_⟩
 show ACall ..
 refine za (ze t.cache.l2 h.2.2.2) rfl ?_
 show AOb ..
 refine ⟨by decide,?_⟩
 show ALoop ..
 refine .next ?_
 show ABr ..
 refine ⟨fun hb=>absurd hb (by decide),fun _=>?_⟩
 show ARet ..
 exact zi rfl ⟨rfl,rfl⟩
theorem zuK (t:Thread) (r a:Int) (h:t.ok) (hr:0≤r∧r≤3):Spec X 229 [] [t.tv,.int r,.int a] (Ret [] (.tup [(t.setReg r a).tv,.int 0])):=by
 refine zd X_ok Tryz.f229 (by kernel_rfl) (by kernel_rfl) (by kernel_rfl) fun _ _=>⟨rfl,?_⟩
 have hr' : r=0∨r=1∨r=2∨r=3:=by omega
 rcases hr' with rfl | rfl | rfl | rfl <;>
 ·show ACall ..
  refine za (zkN t _ (by decide)) rfl ?_
  show ABr ..
  refine ⟨fun hb=>absurd hb (by decide),fun _=>?_⟩
  show ACall ..
  refine za (zux t h) rfl ?_
  show AOb ..
  refine ⟨by decide,?_⟩
  show ARet ..
  exact zi rfl ⟨rfl,rfl⟩
def Thread.zero:Thread:=⟨false,0,0,0,0,⟨[],[],[]⟩,0,0,0,[],0,0,0⟩
theorem zjS (t:Thread):Spec X 70 [] [t.tv] (Ret [] (.bo (decide (0≤t.stage∧t.stage≤3∧0≤t.root∧t.root≤3∧0≤t.pc∧t.pc≤4∧(t.ops.length:Int)≤200∧(t.pc=0∨0 < (t.ops.length:Int)))))):=by
 refine zd X_ok Tryz.f70 (by kernel_rfl) (by kernel_rfl) (by kernel_rfl) fun _ _=>⟨rfl,?_⟩
 show ACall ..
 refine za (zfQ _ _ _) rfl ?_
 show AIf ((!(decide (t.stage≥0) && decide (t.stage≤3)))=false∧True) _ _
 refine ⟨fun h1=>?_,fun h1=>?_⟩
 ·show ACall ..
  refine za (zfQ _ _ _) rfl ?_
  show AIf ((!(decide (t.root≥0) && decide (t.root≤3)))=false∧True) _ _
  refine ⟨fun h2=>?_,fun h2=>?_⟩
  ·show ACall ..
   refine za (zfQ _ _ _) rfl ?_
   show ABr (!(decide (t.pc≥0) && decide (t.pc≤4))) _ _
   refine ⟨fun h3=>?_,fun h3=>?_⟩
   ·show ARet ..
    refine zw (y:=decide (0≤t.stage∧t.stage≤3∧0≤t.root∧t.root≤3∧0≤t.pc∧t.pc≤4∧(t.ops.length:Int)≤200∧(t.pc=0∨0 < (t.ops.length:Int)))) ?_ ⟨rfl,rfl⟩
    simp at h1 h2 h3 ⊢
    omega
   ·show ARet ..
    refine zw (x:=bif decide ((t.ops.length:Int)≤200) then (bif decide (t.pc=0) then true else decide ((t.ops.length:Int) > 0)) else false) ?_ ⟨rfl,rfl⟩
    simp at h1 h2 h3
    simp [h1,h2,h3]
  ·show AOb ((!(decide (t.root≥0) && decide (t.root≤3)))=true) _
   refine ⟨by simp at h2 ⊢;omega,?_⟩
   show ABr true _ _
   refine ⟨fun _=>?_,fun h=>absurd h (by simp)⟩
   show ARet ..
   refine zw ?_ ⟨rfl,rfl⟩
   simp at h1 h2 ⊢
   omega
 ·show AOb ..
  refine ⟨by simp at h1 ⊢;omega,?_⟩
  show AIf (true=false∧True) _ _
  refine ⟨fun h=>absurd h.1 (by simp),fun _=>?_⟩
  show AOb (true=true) _
  refine ⟨rfl,?_⟩
  show ABr ..
  refine ⟨fun _=>?_,fun h=>absurd h (by simp)⟩
  show ARet ..
  refine zw ?_ ⟨rfl,rfl⟩
  simp at h1 ⊢
  omega
theorem zqN (c:Col) (t:Thread):Spec X 259 [] [c.tv,t.tv] (Ret [] (.bo (decide (t.epoch=c.epoch∧1≤c.phase∧c.phase≤5)))):=by
 refine zd X_ok Tryz.f259 (by kernel_rfl) (by kernel_rfl) (by kernel_rfl) fun _ _=>⟨rfl,?_⟩
 show AIf (decide (t.epoch=c.epoch)=true∧True) _ _
 refine ⟨fun h1=>?_,fun h1=>?_⟩
 ·show ACall ..
  refine za (zfQ _ _ _) rfl ?_
  show ARet ..
  refine zw (x:=decide (c.phase≥1) && decide (c.phase≤5)) ?_ ⟨rfl,rfl⟩
  simp at h1
  simp [h1]
 ·show AOb (decide (t.epoch=c.epoch)=false) _
  refine ⟨by simpa using h1,?_⟩
  show ARet ..
  refine zw (x:=false) ?_ ⟨rfl,rfl⟩
  simp at h1
  simp [h1]
theorem zrw (c:Col) (t:Thread):Spec X 235 [] [c.tv,t.tv] (Ret [] (.bo (decide (t.epoch=c.epoch∧t.stage=3∧c.phase≠0)))):=by
 refine zd X_ok Tryz.f235 (by kernel_rfl) (by kernel_rfl) (by kernel_rfl) fun _ _=>⟨rfl,?_⟩
 show ARet ..
 refine zw (x:=bif (bif decide (t.epoch=c.epoch) then decide (t.stage=3) else false) then !decide (c.phase=0) else false) ?_ ⟨rfl,rfl⟩
 by_cases h1:t.epoch=c.epoch <;> by_cases h2:t.stage=3 <;> simp [h1,h2]
end Go.Abs
namespace Go.Abs
open Go.Proofs Go.Proofs.YtlankjlnnimdoaaGreatDoor
set_option maxRecDepth 8000
def Thread.six (t:Thread):List Int:=[t.r0,t.r1,t.r2,t.r3,t.x,t.y]
def Thread.acc (t:Thread) (i:Nat):List Int:=(t.six.take i).filter fun a=>decide (a≠0)
theorem Thread.acc_len (t:Thread) (i:Nat):(t.acc i).length≤6:=
 Nat.le_trans (List.length_filter_le _ _) (by simp [Thread.six];omega)
theorem Thread.acc_step (t:Thread) (i:Nat) {a:Int} (h:t.six[i]? = some a):t.acc (i+1)=if a=0 then t.acc i else t.acc i ++ [a]:=by
 unfold Thread.acc
 rw [List.take_add_one,h,List.filter_append]
 by_cases ha:a=0 <;> simp [ha]
theorem Thread.acc_most (t:Thread) (i:Nat):(t.acc i).length+1≤most:=by
 have:=t.acc_len i
 unfold most
 omega
theorem zqC (t:Thread):Spec X 88 [] [t.tv] (Ret [] (.c (.d (.sl .int (t.acc 6))))):=by
 refine zd X_ok Tryz.f88 (by kernel_rfl) (by kernel_rfl) (by kernel_rfl) fun _ _=>⟨rfl,?_⟩
 show ∃ n,_
 refine ⟨0,ALoop.inv (ι:={i:Nat // i≤6}) (fun i=>⟨[(3,.c (.own 1)),(1,.c (.ptr 0 0 0)),(6,.int i.1)],[(0,.vars ((EK.enc .thread t).map .d)),(1,.data .int (t.acc i.1))],32⟩) (fun i=>6 - i.1) ⟨0,by simp⟩ ?_ ?_⟩
 ·exact ⟨[(32,0)],.cons _ _ _ (.c _ _ (.nilown 1 .int rfl rfl)) (.cons _ _ _ (.c _ _ (.ptr _ _ _ _ rfl)) (.cons _ _ _ .same .nil)),.old 0 32 _ _ _ rfl rfl (.vars _ _ (zb rfl)) (.new 1 .int _ rfl .nil),rfl⟩
 ·rintro ⟨i,hi⟩
  have hc:i=0∨i=1∨i=2∨i=3∨i=4∨i=5∨i=6:=by omega
  rcases hc with rfl | rfl | rfl | rfl | rfl | rfl | rfl
  ·show ABr ..
   refine ⟨fun _=>?_,fun h=>absurd h (by simp)⟩
   show ABr ..
   refine ⟨fun _=>?_,fun h=>absurd h (by simp)⟩
   show AOb ..
   refine ⟨by simp,?_⟩
   show ABr (t.r0 != 0) _ _
   refine ⟨fun h=>?_,fun h=>?_⟩
   ·have h0:t.r0≠0:=by simpa using h
    show AOb ((t.acc 0).length+1≤most) _
    refine ⟨t.acc_most 0,?_⟩
    show ARound ..
    refine ⟨⟨1,by decide⟩,by simp,[(_,1),(0,0)],.cons _ _ _ (.c _ _ (.own1 _ _)) (.cons _ _ _ (.c _ _ (.ptr _ _ _ _ rfl)) (.cons _ _ _ .same .nil)),.old 0 0 _ _ _ rfl rfl (.vars _ _ (zb rfl)) (.old 1 _ _ _ _ rfl rfl (.data_eq ?_) .nil),rfl⟩
    show t.acc 0 ++ [t.r0]=t.acc 1
    rw [t.acc_step 0 rfl,if_neg h0]
   ·have h0:t.r0=0:=by simpa using h
    show ARound ..
    refine ⟨⟨1,by decide⟩,by simp,[(1,1),(0,0)],.cons _ _ _ (.c _ _ (.own1 _ _)) (.cons _ _ _ (.c _ _ (.ptr _ _ _ _ rfl)) (.cons _ _ _ .same .nil)),.old 0 0 _ _ _ rfl rfl (.vars _ _ (zb rfl)) (.old 1 _ _ _ _ rfl rfl (.data_eq ?_) .nil),rfl⟩
    show t.acc 0=t.acc 1
    rw [t.acc_step 0 rfl,if_pos h0]
  ·show ABr ..
   refine ⟨fun _=>?_,fun h=>absurd h (by simp)⟩
   show ABr ..
   refine ⟨fun _=>?_,fun h=>absurd h (by simp)⟩
   show AOb ..
   refine ⟨by simp,?_⟩
   show ABr (t.r1 != 0) _ _
   refine ⟨fun h=>?_,fun h=>?_⟩
   ·have h0:t.r1≠0:=by simpa using h
    show AOb ((t.acc 1).length+1≤most) _
    refine ⟨t.acc_most 1,?_⟩
    show ARound ..
    refine ⟨⟨2,by decide⟩,by simp,[(_,1),(0,0)],.cons _ _ _ (.c _ _ (.own1 _ _)) (.cons _ _ _ (.c _ _ (.ptr _ _ _ _ rfl)) (.cons _ _ _ .same .nil)),.old 0 0 _ _ _ rfl rfl (.vars _ _ (zb rfl)) (.old 1 _ _ _ _ rfl rfl (.data_eq ?_) .nil),rfl⟩
    show t.acc 1 ++ [t.r1]=t.acc 2
    rw [t.acc_step 1 rfl,if_neg h0]
   ·have h0:t.r1=0:=by simpa using h
    show ARound ..
    refine ⟨⟨2,by decide⟩,by simp,[(1,1),(0,0)],.cons _ _ _ (.c _ _ (.own1 _ _)) (.cons _ _ _ (.c _ _ (.ptr _ _ _ _ rfl)) (.cons _ _ _ .same .nil)),.old 0 0 _ _ _ rfl rfl (.vars _ _ (zb rfl)) (.old 1 _ _ _ _ rfl rfl (.data_eq ?_) .nil),rfl⟩
    show t.acc 1=t.acc 2
    rw [t.acc_step 1 rfl,if_pos h0]
  ·show ABr ..
   refine ⟨fun _=>?_,fun h=>absurd h (by simp)⟩
   show ABr ..
   refine ⟨fun _=>?_,fun h=>absurd h (by simp)⟩
   show AOb ..
   refine ⟨by simp,?_⟩
   show ABr (t.r2 != 0) _ _
   refine ⟨fun h=>?_,fun h=>?_⟩
   ·have h0:t.r2≠0:=by simpa using h
    show AOb ((t.acc 2).length+1≤most) _
    refine ⟨t.acc_most 2,?_⟩
    show ARound ..
    refine ⟨⟨3,by decide⟩,by simp,[(_,1),(0,0)],.cons _ _ _ (.c _ _ (.own1 _ _)) (.cons _ _ _ (.c _ _ (.ptr _ _ _ _ rfl)) (.cons _ _ _ .same .nil)),.old 0 0 _ _ _ rfl rfl (.vars _ _ (zb rfl)) (.old 1 _ _ _ _ rfl rfl (.data_eq ?_) .nil),rfl⟩
    show t.acc 2 ++ [t.r2]=t.acc 3
    rw [t.acc_step 2 rfl,if_neg h0]
   ·have h0:t.r2=0:=by simpa using h
    show ARound ..
    refine ⟨⟨3,by decide⟩,by simp,[(1,1),(0,0)],.cons _ _ _ (.c _ _ (.own1 _ _)) (.cons _ _ _ (.c _ _ (.ptr _ _ _ _ rfl)) (.cons _ _ _ .same .nil)),.old 0 0 _ _ _ rfl rfl (.vars _ _ (zb rfl)) (.old 1 _ _ _ _ rfl rfl (.data_eq ?_) .nil),rfl⟩
    show t.acc 2=t.acc 3
    rw [t.acc_step 2 rfl,if_pos h0]
  ·show ABr ..
   refine ⟨fun _=>?_,fun h=>absurd h (by simp)⟩
   show ABr ..
   refine ⟨fun _=>?_,fun h=>absurd h (by simp)⟩
   show AOb ..
   refine ⟨by simp,?_⟩
   show ABr (t.r3 != 0) _ _
   refine ⟨fun h=>?_,fun h=>?_⟩
   ·have h0:t.r3≠0:=by simpa using h
    show AOb ((t.acc 3).length+1≤most) _
    refine ⟨t.acc_most 3,?_⟩
    show ARound ..
    refine ⟨⟨4,by decide⟩,by simp,[(_,1),(0,0)],.cons _ _ _ (.c _ _ (.own1 _ _)) (.cons _ _ _ (.c _ _ (.ptr _ _ _ _ rfl)) (.cons _ _ _ .same .nil)),.old 0 0 _ _ _ rfl rfl (.vars _ _ (zb rfl)) (.old 1 _ _ _ _ rfl rfl (.data_eq ?_) .nil),rfl⟩
    show t.acc 3 ++ [t.r3]=t.acc 4
    rw [t.acc_step 3 rfl,if_neg h0]
   ·have h0:t.r3=0:=by simpa using h
    show ARound ..
    refine ⟨⟨4,by decide⟩,by simp,[(1,1),(0,0)],.cons _ _ _ (.c _ _ (.own1 _ _)) (.cons _ _ _ (.c _ _ (.ptr _ _ _ _ rfl)) (.cons _ _ _ .same .nil)),.old 0 0 _ _ _ rfl rfl (.vars _ _ (zb rfl)) (.old 1 _ _ _ _ rfl rfl (.data_eq ?_) .nil),rfl⟩
    show t.acc 3=t.acc 4
    rw [t.acc_step 3 rfl,if_pos h0]
  ·show ABr ..
   refine ⟨fun _=>?_,fun h=>absurd h (by simp)⟩
   show ABr ..
   refine ⟨fun h=>absurd h (by simp),fun _=>?_⟩
   show ABr ..
   refine ⟨fun h=>absurd h (by simp),fun _=>?_⟩
   show ABr (t.x != 0) _ _
   refine ⟨fun h=>?_,fun h=>?_⟩
   ·have h0:t.x≠0:=by simpa using h
    show AOb ((t.acc 4).length+1≤most) _
    refine ⟨t.acc_most 4,?_⟩
    show ARound ..
    refine ⟨⟨5,by decide⟩,by simp,[(_,1),(0,0)],.cons _ _ _ (.c _ _ (.own1 _ _)) (.cons _ _ _ (.c _ _ (.ptr _ _ _ _ rfl)) (.cons _ _ _ .same .nil)),.old 0 0 _ _ _ rfl rfl (.vars _ _ (zb rfl)) (.old 1 _ _ _ _ rfl rfl (.data_eq ?_) .nil),rfl⟩
    show t.acc 4 ++ [t.x]=t.acc 5
    rw [t.acc_step 4 rfl,if_neg h0]
   ·have h0:t.x=0:=by simpa using h
    show ARound ..
    refine ⟨⟨5,by decide⟩,by simp,[(1,1),(0,0)],.cons _ _ _ (.c _ _ (.own1 _ _)) (.cons _ _ _ (.c _ _ (.ptr _ _ _ _ rfl)) (.cons _ _ _ .same .nil)),.old 0 0 _ _ _ rfl rfl (.vars _ _ (zb rfl)) (.old 1 _ _ _ _ rfl rfl (.data_eq ?_) .nil),rfl⟩
    show t.acc 4=t.acc 5
    rw [t.acc_step 4 rfl,if_pos h0]
  ·show ABr ..
   refine ⟨fun _=>?_,fun h=>absurd h (by simp)⟩
   show ABr ..
   refine ⟨fun h=>absurd h (by simp),fun _=>?_⟩
   show ABr ..
   refine ⟨fun _=>?_,fun h=>absurd h (by simp)⟩
   show ABr (t.y != 0) _ _
   refine ⟨fun h=>?_,fun h=>?_⟩
   ·have h0:t.y≠0:=by simpa using h
    show AOb ((t.acc 5).length+1≤most) _
    refine ⟨t.acc_most 5,?_⟩
    show ARound ..
    refine ⟨⟨6,by decide⟩,by simp,[(_,1),(0,0)],.cons _ _ _ (.c _ _ (.own1 _ _)) (.cons _ _ _ (.c _ _ (.ptr _ _ _ _ rfl)) (.cons _ _ _ .same .nil)),.old 0 0 _ _ _ rfl rfl (.vars _ _ (zb rfl)) (.old 1 _ _ _ _ rfl rfl (.data_eq ?_) .nil),rfl⟩
    show t.acc 5 ++ [t.y]=t.acc 6
    rw [t.acc_step 5 rfl,if_neg h0]
   ·have h0:t.y=0:=by simpa using h
    show ARound ..
    refine ⟨⟨6,by decide⟩,by simp,[(1,1),(0,0)],.cons _ _ _ (.c _ _ (.own1 _ _)) (.cons _ _ _ (.c _ _ (.ptr _ _ _ _ rfl)) (.cons _ _ _ .same .nil)),.old 0 0 _ _ _ rfl rfl (.vars _ _ (zb rfl)) (.old 1 _ _ _ _ rfl rfl (.data_eq ?_) .nil),rfl⟩
    show t.acc 5=t.acc 6
    rw [t.acc_step 5 rfl,if_pos h0]
  ·show ABr ..
   refine ⟨fun h=>absurd h (by simp),fun _=>?_⟩
   show ARet ..
   exact zfu (.frz rfl rfl) ⟨rfl,rfl⟩
end Go.Abs
namespace Go.Abs
open Go.Proofs Go.Proofs.YtlankjlnnimdoaaGreatDoor
set_option maxRecDepth 8000
end Go.Abs
namespace Go.Abs
open Go.Proofs Go.Proofs.YtlankjlnnimdoaaGreatDoor
set_option maxRecDepth 8000
end Go.Abs
namespace Go.Abs
open Go.Proofs Go.Proofs.YtlankjlnnimdoaaGreatDoor
set_option maxRecDepth 8000
def zdh (g:Hp) (t:Thread) (r:Int):Int:=if 0≤r∧r≤3 then (if headE g (t.reg r)=0 then 0 else 5) else 1
def zen (g:Hp) (t:Thread) (r:Int):Int:=if 0≤r∧r≤3 then (if headE g (t.reg r)=0 then t.reg r else 0) else 0
def zef (g:Hp) (t:Thread) (r:Int):Int:=if 0≤r∧r≤3 then (if headE g (t.reg r)=0 then (headH g (t.reg r)).n else 0) else 0
theorem zjb (g:Hp) (t:Thread) (r:Int) (hl:g.light):Spec X 200 [] [g.tv,t.tv,.int r] (Ret [] (.tup [.int (zen g t r),.int (zef g t r),.int (zdh g t r)])):=by
 refine zd X_ok Tryz.f200 (by kernel_rfl) (by kernel_rfl) (by kernel_rfl) fun hb hH=>⟨rfl,?_⟩
 unfold zen zef zdh
 by_cases h:0≤r∧r≤3
 ·rw [if_pos h,if_pos h,if_pos h]
  show ACall ..
  refine za (zkN t r h) rfl ?_
  show ABr ..
  refine ⟨fun h=>absurd h (by decide),fun _=>?_⟩
  show ACall ..
  refine za (zav g (t.reg r) hl) rfl ?_
  by_cases h0:headE g (t.reg r)=0
  ·rw [if_pos h0,if_pos h0,if_pos h0,h0]
   show ABr ..
   refine ⟨fun h=>absurd h (by decide),fun _=>?_⟩
   show ARet ..
   exact zi rfl ⟨rfl,rfl⟩
  ·rw [if_neg h0,if_neg h0,if_neg h0]
   show ABr ..
   refine ⟨fun _=>?_,fun h=>absurd h (by simpa using h0)⟩
   show ARet ..
   exact zi rfl ⟨rfl,rfl⟩
 ·rw [if_neg h,if_neg h,if_neg h]
  show ACall ..
  refine za (znC t r h) rfl ?_
  show ABr ..
  refine ⟨fun _=>?_,fun h=>absurd h (by decide)⟩
  show ARet ..
  exact zi rfl ⟨rfl,rfl⟩
end Go.Abs
namespace Go.Abs
open Go.Proofs Go.Proofs.YtlankjlnnimdoaaGreatDoor
set_option maxRecDepth 8000
theorem zvz (t:Thread) (r a:Int) (h:¬ (0≤r∧r≤3)):Spec X 229 [] [t.tv,.int r,.int a] (Ret [] (.tup [Thread.zero.tv,.int 1])):=by
 refine zd X_ok Tryz.f229 (by kernel_rfl) (by kernel_rfl) (by kernel_rfl) fun _ _=>⟨rfl,?_⟩
 show ACall ..
 refine za (znC t r h) rfl ?_
 show ABr ..
 refine ⟨fun hb=>?_,fun hb=>absurd hb (by decide)⟩
 show ARet ..
 refine ⟨[],[],[Thread.zero.tv,.int 1],.cons _ _ _ _ (.agg _ _ ?_) (.cons _ _ _ _ .same .nil),.nil,rfl,⟨rfl,rfl⟩⟩
 repeat (first | exact .nil | refine .cons _ _ _ _ (.d _) ?_ | refine .cons _ _ _ _ (.nilsl _) ?_)
end Go.Abs
namespace Go.Abs
open Go.Proofs Go.Proofs.YtlankjlnnimdoaaGreatDoor
set_option maxRecDepth 8000
def zvt (t:Thread) (r:Int):Int:=if 0≤r∧r≤3 then t.reg r else 0
def zA (r:Int):Int:=if 0≤r∧r≤3 then 0 else 1
theorem zlV (t:Thread) (r:Int):Spec X 182 [] [t.tv,.int r] (Ret [] (.tup [.int (zvt t r),.int (zA r)])):=by
 unfold zvt zA
 by_cases h:0≤r∧r≤3
 ·rw [if_pos h,if_pos h];exact zkN t r h
 ·rw [if_neg h,if_neg h];exact znC t r h
end Go.Abs
namespace Go.Abs
open Go.Proofs Go.Proofs.YtlankjlnnimdoaaGreatDoor
set_option maxRecDepth 8000
end Go.Abs
namespace Go.Abs
open Go.Proofs Go.Proofs.YtlankjlnnimdoaaGreatDoor
set_option maxRecDepth 8000
end Go.Abs
namespace Go.Abs
open Go.Proofs Go.Proofs.YtlankjlnnimdoaaGreatDoor
set_option maxRecDepth 8000
theorem zwA {g:Hp} {c:Col} {a:Int} (h:atK g c a=1):headE g a=0∧(headH g a).mark < c.epoch:=by
 unfold atK at h
 by_cases h0:headE g a=0
 ·refine ⟨h0,?_⟩
  rw [decide_eq_true h0] at h
  have h:zcj c (headH g a)=1:=h
  unfold zcj at h
  by_cases h1:(headH g a).mark < c.epoch
  ·exact h1
  ·exfalso
   rw [decide_eq_false h1] at h
   revert h
   generalize (bif (bif (bif (headH g a).old then !c.major else false) then true else decide (c.epoch < 0)) then true else decide (c.epoch > 1048576))=q
   cases q <;> cases (headH g a).done <;> decide
 ·rw [decide_eq_false h0] at h
  have h:(0:Int)=1:=h
  exact absurd h (by decide)
end Go.Abs
namespace Go.Abs
def inC (c:Col) (x:Hd):Prop:=(x.old=false∨c.major=true)∧0≤c.epoch∧c.epoch≤1048576
theorem zrj {c:Col} {x:Hd}:(bif (bif (bif x.old then !c.major else false) then true else decide (c.epoch < 0)) then true else decide (c.epoch > 1048576))=false↔inC c x:=by
 unfold inC
 cases x.old <;> cases c.major <;> simp [Bool.cond_eq_ite] <;> omega
theorem zrp {c : Col} {x : Hd} : (zcj c x = 1 ↔ inC c x ∧ x.mark < c.epoch) ∧ (zcj c x = 2 ↔ inC c x ∧ c.epoch ≤ x.mark ∧ x.done = false) ∧ (zcj c x = 3 ↔ inC c x ∧ c.epoch ≤ x.mark ∧ x.done = true) := by
  unfold zcj
  rw [← zrj]
  generalize (bif (bif (bif x.old then !c.major else false) then true else decide (c.epoch < 0)) then true else decide (c.epoch > 1048576)) = q
  cases q with
  | true => simp
  | false =>
    by_cases h : x.mark < c.epoch
    · simp [h]
      omega
    · have h' : c.epoch ≤ x.mark := by omega
      cases x.done <;> simp [h, h']
theorem zvg {g:Hp} {c:Col} {a:Int} (h:headE g a=0):atK g c a=zcj c (headH g a):=by unfold atK;rw [decide_eq_true h];rfl
theorem zv6 {g:Hp} {c:Col} {a:Int} (h:headE g a≠0):atK g c a=0:=by unfold atK;rw [decide_eq_false h];rfl
theorem zrx {g:Hp} {c:Col} {a:Int} (h:atK g c a≠0):headE g a=0:=by
 by_cases h0:headE g a=0
 ·exact h0
 ·exact absurd (zv6 h0) h
theorem zqO {c d:Col} (h1:d.epoch=c.epoch) (h2:d.major=c.major) (x:Hd):zcj d x=zcj c x:=by unfold zcj;rw [h1,h2]
theorem zsd {c d:Col} (h1:d.epoch=c.epoch) (h2:d.major=c.major) (g:Hp) (a:Int):atK g d a=atK g c a:=by unfold atK;rw [zqO h1 h2]
theorem zhD {g:Hp} {a:Int} (h:headE g a=0):(headH g a).May∧(headH g a).used=true:=by
 obtain ⟨hm,hr,hu⟩:=zV h
 rw [zaw h]
 have hc:=(zai hm).2.2.1 a (zt.2 hr)
 unfold zay at hc
 rw [Bool.and_eq_true] at hc
 obtain ⟨e,h2⟩:=zon hc.1
 rw [e]
 rw [e] at hu
 exact ⟨h2,hu⟩
theorem zkd {g:Hp} {a:Int} {x:Hd} (h0:headE g a=0) (hx:x.May) (hu:x.used=true) (hn:x.n=(headH g a).n):PutOk g a x∧zfH g a x=0:=by
 have h:zfH g a x=0:=by unfold zfH;rw [decide_eq_true h0,decide_eq_true ⟨hx,hu,hn⟩];rfl
 exact ⟨(zvc h).1,h⟩
theorem zma {g:Hp} (hm:zz g []=true) (a:Int):headE g a=0∨headE g a=3:=by
 unfold headE
 rw [hm]
 cases decide (zf g.pages a=0) <;> cases (unp (zh g a)).used <;> simp
theorem zkj {g:Hp} {a:Int} {x:Hd} (h:PutOk g a x) (u:Int):headE (zbW g a x.word) u=headE g u∧headH (zbW g a x.word) u=if u=a then x else headH g u:=by
 have hm:=h.may
 have hm' : zz (zbW g a x.word) []=true:=by rw [zhu h];exact hm
 have hiff:headE (zbW g a x.word) u=0↔headE g u=0:=by rw [← zbd,← zbd,zof h]
 by_cases h0:headE g u=0
 ·obtain ⟨h1,h2⟩:=zva h h0
  exact ⟨by rw [h1,h0],h2⟩
 ·have h0' : headE (zbW g a x.word) u≠0:=fun e=>h0 (hiff.1 e)
  have e1:=zma hm u
  have e2:=zma hm' u
  refine ⟨by omega,?_⟩
  have hne:u≠a:=by
   intro e
   subst e
   apply h0
   unfold headE
   rw [hm,decide_eq_false h.room,h.used]
   rfl
  rw [if_neg hne,zby rfl h0',zby rfl h0]
theorem zdF {g:Hp} {c:Col} {a:Int} (h:atK g c a=1):headE g a=0∧PutOk g a (zhA g c a)∧zfH g a (zhA g c a)=0:=by
 have h0:headE g a=0:=zrx (c:=c) (by omega)
 rw [zvg h0] at h
 obtain ⟨⟨_,h1,h2⟩,h3⟩:=zrp.1.1 h
 obtain ⟨hm,hu⟩:=zhD h0
 have hx:(zhA g c a).May:=by
  unfold Hd.May at hm ⊢
  rw [if_pos hu] at hm
  have hu' : (zhA g c a).used=true:=hu
  rw [if_pos hu']
  exact ⟨hm.1,hm.2.1,h1,h2⟩
 exact ⟨h0,zkd h0 hx hu rfl⟩
theorem zcC {g:Hp} {c:Col} {a:Int} (h:atK g c a=1):zaa g c a=zbW g a (zhA g c a).word:=by
 unfold zaa
 rw [decide_eq_true h]
 exact zhv (zdF h).2.2
theorem zdp {g:Hp} {c:Col} {a:Int} (h:atK g c a≠1):zaa g c a=g:=by unfold zaa;rw [decide_eq_false h];rfl
theorem zs4 {g:Hp} {c:Col} {a:Int} (h:atK g c a≠1):zae g c a=c:=by unfold zae;rw [decide_eq_false h];rfl
theorem zrl {g:Hp} {c:Col} {a:Int} (h:atK g c a=1):zae g c a=if c.work.length < 4 then { c with work:=c.work ++ [a] } else { c with over:=true }:=by
 unfold zae
 rw [decide_eq_true h]
 by_cases h4:c.work.length < 4
 ·rw [if_pos h4,decide_eq_true (show (c.work.length:Int) < 4 by omega)];rfl
 ·rw [if_neg h4,decide_eq_false (show ¬ (c.work.length:Int) < 4 by omega)];rfl
structure SameC (c d:Col):Prop where
 phase:d.phase=c.phase
 epoch:d.epoch=c.epoch
 major:d.major=c.major
 at_:d.at_=c.at_
 field_:d.field_=c.field_
 seek:d.seek=c.seek
 card:d.card=c.card
 met:d.met=c.met
theorem za4 (g:Hp) (c:Col) (a:Int):SameC c (zae g c a):=by
 unfold zae
 cases decide (atK g c a=1)
 ·exact ⟨rfl,rfl,rfl,rfl,rfl,rfl,rfl,rfl⟩
 ·cases decide ((c.work.length:Int) < 4) <;> exact ⟨rfl,rfl,rfl,rfl,rfl,rfl,rfl,rfl⟩
theorem zft (g:Hp) (c:Col) (a u:Int):headE (zaa g c a) u=headE g u∧headH (zaa g c a) u=if u=a∧atK g c a=1 then zhA g c a else headH g u:=by
 by_cases h:atK g c a=1
 ·rw [zcC h]
  obtain ⟨h1,h2⟩:=zkj (zdF h).2.1 u
  refine ⟨h1,?_⟩
  rw [h2]
  by_cases e:u=a
  ·rw [if_pos e,if_pos ⟨e,h⟩]
  ·rw [if_neg e,if_neg (fun k=>e k.1)]
 ·rw [zdp h,if_neg (fun k=>h k.2)]
  exact ⟨rfl,rfl⟩
theorem zqt (g:Hp) (c:Col) (a:Int) (cs:List Lists):zz (zaa g c a) cs=zz g cs:=by
 by_cases h:atK g c a=1
 ·rw [zcC h,zhu (zdF h).2.1]
 ·rw [zdp h]
theorem zbM (g:Hp) (c:Col) (a:Int) (cs:List Lists):zo (zaa g c a) cs=zo g cs:=by
 by_cases h:atK g c a=1
 ·rw [zcC h,zim (zdF h).2.1]
 ·rw [zdp h]
theorem zpQ (g:Hp) (c:Col) (a:Int):zam (zaa g c a)=zam g:=by
 by_cases h:atK g c a=1
 ·rw [zcC h,zof (zdF h).2.1]
 ·rw [zdp h]
theorem zpr (g:Hp) (c:Col) (a:Int):(zaa g c a).pages=g.pages∧(zaa g c a).free=g.free∧(zaa g c a).cards=g.cards∧(zaa g c a).w.length=g.w.length:=by
 by_cases h:atK g c a=1
 ·rw [zcC h]
  exact ⟨rfl,rfl,rfl,List.length_set⟩
 ·rw [zdp h]
  exact ⟨rfl,rfl,rfl,rfl⟩
theorem zoX (g:Hp) (c:Col) (a:Int) (i:Nat) (h:(zaa g c a).w.getD i default≠g.w.getD i default):(i:Int)=a - 16∧atK g c a=1:=by
 by_cases h1:atK g c a=1
 ·refine ⟨?_,h1⟩
  rw [zcC h1] at h
  have had:=zaQ (h:=g) (zdF h1).2.1.room
  by_cases e:(a - 16).toNat=i
  ·have:=had.1;omega
  ·exfalso
   apply h
   show (g.w.set (a - 16).toNat _).getD i default=_
   rw [List.getD_eq_getElem?_getD,List.getD_eq_getElem?_getD,List.getElem?_set_ne e]
 ·rw [zdp h1] at h
  exact absurd rfl h
theorem zjJ {g:Hp} {c:Col} {a:Int} (h:atK g c a=2):headE g a=0∧PutOk g a (zhM g a)∧zfH g a (zhM g a)=0:=by
 have h0:headE g a=0:=zrx (c:=c) (by omega)
 obtain ⟨hm,hu⟩:=zhD h0
 have hx:(zhM g a).May:=by
  unfold Hd.May at hm ⊢
  rw [if_pos hu] at hm
  have hu' : (zhM g a).used=true:=hu
  rw [if_pos hu']
  exact hm
 exact ⟨h0,zkd h0 hx hu rfl⟩
theorem zk5 {g:Hp} {c:Col} {a:Int} (h:atK g c a=2):zbu g c a=zbW g a (zhM g a).word:=by
 unfold zbu
 rw [decide_eq_true h]
 exact zhv (zjJ h).2.2
theorem zmc {g:Hp} {c:Col} {a:Int} (h:atK g c a≠2):zbu g c a=g:=by unfold zbu;rw [decide_eq_false h];rfl
theorem zpT (g:Hp) (c:Col) (a u:Int):headE (zbu g c a) u=headE g u∧headH (zbu g c a) u=if u=a∧atK g c a=2 then zhM g a else headH g u:=by
 by_cases h:atK g c a=2
 ·rw [zk5 h]
  obtain ⟨h1,h2⟩:=zkj (zjJ h).2.1 u
  refine ⟨h1,?_⟩
  rw [h2]
  by_cases e:u=a
  ·rw [if_pos e,if_pos ⟨e,h⟩]
  ·rw [if_neg e,if_neg (fun k=>e k.1)]
 ·rw [zmc h,if_neg (fun k=>h k.2)]
  exact ⟨rfl,rfl⟩
theorem zmg (g:Hp) (c:Col) (a:Int) (cs:List Lists):zo (zbu g c a) cs=zo g cs:=by
 by_cases h:atK g c a=2
 ·rw [zk5 h,zim (zjJ h).2.1]
 ·rw [zmc h]
end Go.Abs
namespace Go.Abs
open Go.Proofs Go.Proofs.YtlankjlnnimdoaaGreatDoor
set_option maxRecDepth 8000
def zac (l:List Page) (a:Int):Int:=((cellStarts l).find? fun s=>decide (a < s)).getD 0
theorem znK (l : List Page) (a : Int) : (zac l a = 0 ∧ ∀ u ∈ cellStarts l, u ≤ a) ∨ (a < zac l a ∧ zac l a ∈ cellStarts l ∧ ∀ u ∈ cellStarts l, a < u → zac l a ≤ u) := by
  unfold zac
  have hs := zee l
  generalize cellStarts l = L at *
  induction L with
  | nil => exact .inl ⟨rfl, fun u h => by cases h⟩
  | cons x r ih =>
    rw [List.pairwise_cons] at hs
    rw [List.find?_cons]
    by_cases hx : a < x
    · rw [decide_eq_true hx]
      refine .inr ⟨hx, List.mem_cons_self .., fun u hu _ => ?_⟩
      rcases List.mem_cons.1 hu with e | hu
      · rw [e]; exact Int.le_refl _
      · exact Int.le_of_lt (hs.1 u hu)
    · rw [decide_eq_false hx]
      rcases ih hs.2 with ⟨h1, h2⟩ | ⟨h1, h2, h3⟩
      · refine .inl ⟨h1, fun u hu => ?_⟩
        rcases List.mem_cons.1 hu with e | hu
        · omega
        · exact h2 u hu
      · refine .inr ⟨h1, List.mem_cons_of_mem _ h2, fun u hu ha => ?_⟩
        rcases List.mem_cons.1 hu with e | hu
        · omega
        · exact h3 u hu ha
theorem zem (a:Int) (x:Int × Int):Spec X 247 [] [.int a,.agg [.d (DV.int x.1),.d (DV.int x.2)]] (Ret [] (.bo (decide (a < x.1)))):=by
 refine zd X_ok Tryz.f247 (by kernel_rfl) (by kernel_rfl) (by kernel_rfl) fun hb hH=>⟨rfl,?_⟩
 show ARet ..
 exact zw rfl ⟨rfl,rfl⟩
def ziI (l:List Page) (a:Int):Bool:=((cellStarts l).find? fun s=>decide (a < s)).isSome
theorem zqS (l:List Page) (a:Int):(cellStarts l).find? (fun s=>decide (a < s))=((cellsAll l).find? fun x=>decide (a < x.1)).map (·.1):=by
 unfold cellStarts
 rw [List.find?_map]
 rfl
theorem zjO (l : List Page) (a : Int) : Spec X 213 [] [.c (.d (.sl .page l)), .int a] (Ret [] (.tup [.int (zac l a), .bo (ziI l a)])) := by
  refine zd X_ok Tryz.f213 (by kernel_rfl) (by kernel_rfl) (by kernel_rfl) fun hb hH => ⟨rfl, ?_⟩
  unfold zac ziI
  rw [zqS]
  cases h : (cellsAll l).find? fun x => decide (a < x.1) with
  | none =>
    show ACall _ _ _ _ _ _
    refine za (zjp (zem a) h) rfl ?_
    show ARet _ _ _
    exact zi rfl ⟨rfl, rfl⟩
  | some x =>
    show ACall _ _ _ _ _ _
    refine za (zjp (zem a) h) rfl ?_
    show ARet _ _ _
    exact zi rfl ⟨rfl, rfl⟩
end Go.Abs
namespace Go.Abs
structure Marks (g k:Hp):Prop where
 pages:k.pages=g.pages
 free:k.free=g.free
 cards:k.cards=g.cards
 len:k.w.length=g.w.length
 may:∀ cs,zz k cs=zz g cs
 whole:∀ cs,zo k cs=zo g cs
 used:zam k=zam g
 headE:∀ u,Abs.headE k u=Abs.headE g u
 head:∀ u,(headH k u).used=(headH g u).used∧(headH k u).old=(headH g u).old∧(headH k u).n=(headH g u).n∧(headH k u).born=(headH g u).born
 word:∀ i:Nat,k.w.getD i default≠g.w.getD i default→16+(i:Int)∈zam g
theorem zpe (g:Hp) (c:Col) (a:Int):Marks g (zaa g c a):=by
 obtain ⟨e1,e2,e3,e4⟩:=zpr g c a
 refine ⟨e1,e2,e3,e4,zqt g c a,zbM g c a,zpQ g c a,fun u=>(zft g c a u).1,fun u=>?_,fun i hi=>?_⟩
 ·rw [(zft g c a u).2]
  by_cases e:u=a∧atK g c a=1
  ·rw [if_pos e,e.1];exact ⟨rfl,rfl,rfl,rfl⟩
  ·rw [if_neg e];exact ⟨rfl,rfl,rfl,rfl⟩
 ·obtain ⟨h1,h2⟩:=zoX g c a i hi
  rw [show 16+(i:Int)=a by omega]
  exact zbd.2 (zdF h2).1
def zba (g:Hp) (c:Col) (a:Int):Int:=if atK g c a=2 then (headH g a).n else 0
def wordOf (g:Hp) (a:Int):Int:=if zbg g.w=true∧16≤a∧a < 16+(g.w.length:Int) then zh g a else 0
def zk4 (g:Hp) (c:Col):Hp × Col:=
 if c.field_ < 0∨zba g c c.at_≤c.field_ then (g,{ c with at_:=0,field_:=0 })
 else if c.field_+1=zba g c c.at_ then (zbu (zaa g c (wordOf g (c.at_+1+c.field_))) c c.at_,{ zae g c (wordOf g (c.at_+1+c.field_)) with at_:=0,field_:=0 })
 else (zaa g c (wordOf g (c.at_+1+c.field_)),{ zae g c (wordOf g (c.at_+1+c.field_)) with field_:=c.field_+1 })
def zfw (g : Hp) (c : Col) : Hp × Col :=
  if zz g [] = true ∧ c.phase = 5 then
    (if c.at_ ≠ 0 then zk4 g c
     else if 0 < c.work.length then (g, { c with at_ := at0 c.work (c.work.length - 1), field_ := 0, work := c.work.take (c.work.length - 1) })
     else if c.seek ≠ 0 then (if zba g c (zac g.pages c.seek) = 0 then (g, { c with seek := zac g.pages c.seek }) else (g, { c with seek := zac g.pages c.seek, at_ := zac g.pages c.seek, field_ := 0 }))
     else if c.over = true then (g, { c with over := false, seek := 1 })
     else (g, { c with phase := 6, at_ := 0, field_ := 0, seek := 0, card := 0, met := false }))
  else (g, c)
inductive TStep (g:Hp) (c:Col):Hp→Col→Prop
 | idle (h:¬ (zz g []=true∧c.phase=5)):TStep g c g c
 | lost (hm:zz g []=true) (hp:c.phase=5) (ha:c.at_≠0) (h:c.field_ < 0∨zba g c c.at_≤c.field_):TStep g c g { c with at_:=0,field_:=0 }
 | last (hm:zz g []=true) (hp:c.phase=5) (ha:c.at_≠0) (h0:0≤c.field_) (h:c.field_+1=zba g c c.at_) (v:Int) (hv:v=wordOf g (c.at_+1+c.field_)) :
   TStep g c (zbu (zaa g c v) c c.at_) { zae g c v with at_:=0,field_:=0 }
 | more (hm:zz g []=true) (hp:c.phase=5) (ha:c.at_≠0) (h0:0≤c.field_) (h:c.field_+1 < zba g c c.at_) (v:Int) (hv:v=wordOf g (c.at_+1+c.field_)) :
   TStep g c (zaa g c v) { zae g c v with field_:=c.field_+1 }
 | pop (hm:zz g []=true) (hp:c.phase=5) (ha:c.at_=0) (r:List Int) (x:Int) (hw:c.work=r ++ [x]):TStep g c g { c with at_:=x,field_:=0,work:=r }
 | pass (hm:zz g []=true) (hp:c.phase=5) (ha:c.at_=0) (hw:c.work=[]) (hs:c.seek≠0) (hg:zba g c (zac g.pages c.seek)=0):TStep g c g { c with seek:=zac g.pages c.seek }
 | find (hm:zz g []=true) (hp:c.phase=5) (ha:c.at_=0) (hw:c.work=[]) (hs:c.seek≠0) (hg:zba g c (zac g.pages c.seek)≠0):TStep g c g { c with seek:=zac g.pages c.seek,at_:=zac g.pages c.seek,field_:=0 }
 | again (hm:zz g []=true) (hp:c.phase=5) (ha:c.at_=0) (hw:c.work=[]) (hs:c.seek=0) (ho:c.over=true):TStep g c g { c with over:=false,seek:=1 }
 | fin (hm:zz g []=true) (hp:c.phase=5) (ha:c.at_=0) (hw:c.work=[]) (hs:c.seek=0) (ho:c.over=false):TStep g c g { c with phase:=6,at_:=0,field_:=0,seek:=0,card:=0,met:=false }
theorem zsn {l:List Int} (h:0 < l.length):l=l.take (l.length - 1) ++ [at0 l (l.length - 1)]:=by
 have h1:l.length - 1 < l.length:=by omega
 have:=zet h1
 rw [show l.length - 1+1=l.length by omega,List.take_length] at this
 exact this
theorem zqa (g:Hp) (c:Col):TStep g c (zfw g c).1 (zfw g c).2:=by
 unfold zfw
 by_cases hm:zz g []=true∧c.phase=5
 ·rw [if_pos hm]
  by_cases ha:c.at_≠0
  ·rw [if_pos ha]
   unfold zk4
   by_cases hf:c.field_ < 0∨zba g c c.at_≤c.field_
   ·rw [if_pos hf]
    exact .lost hm.1 hm.2 ha hf
   ·rw [if_neg hf]
    by_cases hl:c.field_+1=zba g c c.at_
    ·rw [if_pos hl]
     exact .last hm.1 hm.2 ha (by omega) hl _ rfl
    ·rw [if_neg hl]
     exact .more hm.1 hm.2 ha (by omega) (by omega) _ rfl
  ·rw [if_neg ha]
   have ha:c.at_=0:=by simpa using ha
   by_cases hw:0 < c.work.length
   ·rw [if_pos hw]
    exact .pop hm.1 hm.2 ha _ _ (zsn hw)
   ·rw [if_neg hw]
    have hw:c.work=[]:=List.eq_nil_of_length_eq_zero (by omega)
    by_cases hs:c.seek≠0
    ·rw [if_pos hs]
     by_cases hg:zba g c (zac g.pages c.seek)=0
     ·rw [if_pos hg]
      exact .pass hm.1 hm.2 ha hw hs hg
     ·rw [if_neg hg]
      exact .find hm.1 hm.2 ha hw hs hg
    ·rw [if_neg hs]
     have hs:c.seek=0:=by simpa using hs
     by_cases ho:c.over=true
     ·rw [if_pos ho]
      exact .again hm.1 hm.2 ha hw hs ho
     ·rw [if_neg ho]
      exact .fin hm.1 hm.2 ha hw hs (by simpa using ho)
 ·rw [if_neg hm]
  exact .idle hm
theorem TStep.col {g k:Hp} {c d:Col} (h:TStep g c k d):d.epoch=c.epoch∧d.major=c.major∧(d.phase=c.phase∨c.phase=5∧d.phase=6):=by
 cases h
 case last v hv=>exact ⟨(za4 g c v).epoch,(za4 g c v).major,.inl (za4 g c v).phase⟩
 case more v hv=>exact ⟨(za4 g c v).epoch,(za4 g c v).major,.inl (za4 g c v).phase⟩
 case fin=>exact ⟨rfl,rfl,.inr ⟨by assumption,rfl⟩⟩
 all_goals exact ⟨rfl,rfl,.inl rfl⟩
theorem zjV {g:Hp} {c:Col} {u:Int} (h:atK g c u=2):headE g u=0∧u∈cellStarts g.pages∧16≤u:=by
 have h0:headE g u=0:=zrx (c:=c) (by omega)
 obtain ⟨_,hr,_⟩:=zV h0
 exact ⟨h0,zt.2 hr,(zaQ (h:=g) hr).1⟩
theorem zs1 {g:Hp} {c:Col} {a:Int}:zba g c a≠0↔atK g c a=2:=by
 unfold zba
 constructor
 ·intro h
  by_cases e:atK g c a=2
  ·exact e
  ·rw [if_neg e] at h;exact absurd rfl h
 ·intro h
  rw [if_pos h]
  have:=(zcA (zjV h).1).2.1
  omega
end Go.Abs
namespace Go.Abs
def zpu (l:List Page) (a s:Int):Bool:=decide (s≤a∧a < s+zf l s)
theorem zt9 {l:List Page} (hmp:zas l=true) {a:Int} (h1:16≤a) (h2:a < 16 * ((l.length:Int)+1)):((cellStarts l).filter (zpu l a)).length≤1:=by
 have ht:=zwc l 0 0 (by unfold zas at hmp;rw [Bool.and_eq_true] at hmp;exact hmp.1) (Int.le_refl _) (fun p hp=>by
  obtain ⟨i,hi,e⟩:=List.mem_iff_getElem.1 hp
  have:=(zah hmp).1 i hi
  rw [List.getD_eq_getElem?_getD,List.getElem?_eq_getElem hi] at this
  rw [← e];exact this) a (by omega) (by omega)
 have e0:cellsAll l=zci 0 l:=by
  unfold cellsAll
  rw [if_pos hmp,zea l _ 0 rfl]
  rfl
 have e1:cnt (cellsAll l) a=((cellStarts l).filter (zpu l a)).length:=by
  unfold cnt cellStarts
  rw [List.filter_map,List.length_map]
  congr 1
  refine List.filter_congr fun x hx=>?_
  show zdR a x=zpu l a x.1
  unfold zdR zpu
  rw [zbA hx]
 rw [← e1,e0]
 omega
theorem zwD {l : List Int} (hn : l.Nodup) {x y : Int} (hx : x ∈ l) (hy : y ∈ l) (hne : x ≠ y) : 2 ≤ l.length := by
  cases l with
  | nil => cases hx
  | cons a r =>
    cases r with
    | nil =>
      rw [List.mem_singleton] at hx hy
      exact absurd (hx.trans hy.symm) hne
    | cons b s => simp
theorem zrX : ∀ (l : List Page) (r : Int), pgo r l = true → (∀ p ∈ l, zbB p) → r ≤ (l.length : Int)
  | [], r, h, _ => by
    unfold pgo at h
    have := of_decide_eq_true h
    simp
    omega
  | p :: l, r, h, hp => by
    unfold pgo at h
    have hl : ((p :: l).length : Int) = (l.length : Int) + 1 := by simp
    by_cases h3 : p.kind = 3
    · rw [decide_eq_true h3] at h
      simp only [cond_true, Bool.and_eq_true] at h
      have := zrX l (r - 1) h.2 fun q hq => hp q (List.mem_cons_of_mem _ hq)
      omega
    · rw [decide_eq_false h3] at h
      simp only [cond_false, Bool.and_eq_true, Bool.not_eq_true', decide_eq_false_iff_not] at h
      omega
theorem zrI : ∀ (l : List Page) (r : Int) (i : Nat), pgo r l = true → (∀ p ∈ l, zbB p) → i < l.length → (l.getD i default).kind = 2 → (i : Int) + (l.getD i default).arg ≤ (l.length : Int)
  | [], r, i, _, _, hi, _ => by simp at hi
  | p :: l, r, i, h, hp, hi, hk => by
    unfold pgo at h
    have hl : ((p :: l).length : Int) = (l.length : Int) + 1 := by simp
    have hp' : ∀ q ∈ l, zbB q := fun q hq => hp q (List.mem_cons_of_mem _ hq)
    have rec_ : ∀ r', pgo r' l = true → ∀ j, i = j + 1 → (i : Int) + ((p :: l).getD i default).arg ≤ ((p :: l).length : Int) := by
      intro r' h' j hj
      subst hj
      have := zrI l r' j h' hp' (by simpa using hi) hk
      have e : ((p :: l).getD (j + 1) default) = l.getD j default := rfl
      rw [e]
      omega
    by_cases h3 : p.kind = 3
    · rw [decide_eq_true h3] at h
      simp only [cond_true, Bool.and_eq_true] at h
      cases i with
      | zero => exfalso; have hk : p.kind = 2 := hk; omega
      | succ j => exact rec_ _ h.2 j rfl
    · rw [decide_eq_false h3] at h
      simp only [cond_false, Bool.and_eq_true] at h
      cases i with
      | zero =>
        have hk : p.kind = 2 := hk
        have h2 := h.2
        rw [if_pos hk] at h2
        have := zrX l _ h2 hp'
        show ((0 : Nat) : Int) + p.arg ≤ _
        omega
      | succ j => exact rec_ _ h.2 j rfl
theorem zuB {l:List Page} (hmp:zas l=true):∀ p∈l,zbB p:=by
 intro p hp
 obtain ⟨i,hi,e⟩:=List.mem_iff_getElem.1 hp
 have:=(zah hmp).1 i hi
 rw [List.getD_eq_getElem?_getD,List.getElem?_eq_getElem hi] at this
 rw [← e];exact this
theorem zpb {l:List Page} {a:Int} (h:zf l a≠0):a+zf l a≤16 * ((l.length:Int)+1):=by
 obtain ⟨hmp,i,hi⟩:=zaq (zx h)
 have hlt:=hi.lt
 have hk:=hi.kind
 simp only at hk
 rcases hk with ⟨_,_,_,k4,_⟩ | ⟨k1,k2,k3,k4,k5⟩
 ·omega
 ·have:=zrI l 0 i (by unfold zas at hmp;rw [Bool.and_eq_true] at hmp;exact hmp.1) (zuB hmp) hlt k1
  omega
theorem zwl {l:List Page} {u a:Int} (hr:zf l u≠0) (h1:u < a) (h2:a < u+zf l u):zf l a=0:=by
 by_cases h:zf l a=0
 ·exact h
 ·exfalso
  obtain ⟨hmp,i,hi⟩:=zaq (zx hr)
  have hlo:=hi.lo
  simp only at hlo
  have hend:=zpb hr
  have hone:=zt9 hmp (a:=a) (by omega) (by omega)
  have hpos:=zgj l a
  have hn:((cellStarts l).filter (zpu l a)).Nodup:=((zee l).imp (fun h=>by omega):(cellStarts l).Nodup).sublist List.filter_sublist
  have:=zwD hn (x:=u) (y:=a) (List.mem_filter.2 ⟨zt.2 hr,decide_eq_true ⟨by omega,h2⟩⟩) (List.mem_filter.2 ⟨zt.2 h,decide_eq_true ⟨by omega,by omega⟩⟩) (by omega)
  omega
theorem ziC {g:Hp} {u f:Int} (h0:headE g u=0) (h1:1≤f) (h2:f≤(headH g u).n):adr g (u+f)∧u+f ∉ zam g:=by
 obtain ⟨_,hn1,hn2,had⟩:=zcA h0
 obtain ⟨_,hr,_⟩:=zV h0
 have he:=zpb hr
 have had1:=had.1
 refine ⟨⟨by omega,by omega⟩,fun hin=>?_⟩
 have:=(zV (zbd.1 hin)).2.1
 exact this (zwl hr (by omega) (by omega))
end Go.Abs
namespace Go.Abs
abbrev Thread.mayT (t:Thread):Prop:=0≤t.stage∧t.stage≤3∧0≤t.root∧t.root≤3∧0≤t.pc∧t.pc≤4∧(t.ops.length:Int)≤200∧(t.pc=0∨0 < (t.ops.length:Int))
def zcm (p:Int):Int:=if p=0 then 0 else if p=1 then 1 else if p=2 then 2 else 3
def zal (c:Col) (t:Thread):Bool:=
 if c.phase=0 then true else if c.phase=1 then decide (t.epoch=c.epoch) else if c.phase=2 then decide (t.epoch=c.epoch∧2≤t.stage) else decide (t.epoch=c.epoch∧t.stage=3)
def zaK (c:Col) (t:Thread):Bool:=t.live && (decide t.mayT && (decide (t.pc=0) && !zal c t))
def za8 (c:Col) (t:Thread):Nat:=if zaK c t=true then (if t.epoch≠c.epoch then 1 else if c.phase=2 then 2 else 3) else 0
def ansT (c:Col) (t:Thread):Thread:=match za8 c t with
 | 0=>t
 | 1=>{ t with epoch:=c.epoch,stage:=1,root:=0 }
 | 2=>{ t with stage:=2 }
 | _=>if t.root=3 then { t with root:=0,stage:=3 } else { t with root:=t.root+1 }
def ansG (g:Hp) (c:Col) (t:Thread):Hp:=if za8 c t=3 then zaa g c (t.reg t.root) else g
def ansC (g:Hp) (c:Col) (t:Thread):Col:=if za8 c t=3 then zae g c (t.reg t.root) else c
theorem zj8 {c:Col} {t:Thread} (h:zaK c t=true):t.live=true∧t.mayT∧t.pc=0∧zal c t=false:=by
 unfold zaK at h
 rw [Bool.and_eq_true,Bool.and_eq_true,Bool.and_eq_true,decide_eq_true_eq,decide_eq_true_eq,Bool.not_eq_true'] at h
 exact h
theorem zqL {c:Col} {t:Thread} (h:zaK c t=false):za8 c t=0:=by unfold za8;rw [if_neg (by rw [h];decide)]
theorem znx {c:Col} {t:Thread} (h:zaK c t=false):ansT c t=t:=by unfold ansT;rw [zqL h];rfl
theorem zvw {g:Hp} {c:Col} {t:Thread} (h:zaK c t=false):ansG g c t=g:=by unfold ansG;rw [zqL h];rfl
theorem zvH {g:Hp} {c:Col} {t:Thread} (h:zaK c t=false):ansC g c t=c:=by unfold ansC;rw [zqL h];rfl
theorem zdx {c:Col} {t:Thread} (h:zaK c t=true) :
  (t.epoch≠c.epoch∧za8 c t=1∧ansT c t={ t with epoch:=c.epoch,stage:=1,root:=0 }) ∨
  (t.epoch=c.epoch∧c.phase=2∧t.stage < 2∧za8 c t=2∧ansT c t={ t with stage:=2 }) ∨
  (t.epoch=c.epoch∧c.phase≠0∧c.phase≠1∧c.phase≠2∧t.stage≠3∧za8 c t=3∧ansT c t=if t.root=3 then { t with root:=0,stage:=3 } else { t with root:=t.root+1 }):=by
 have ha:=(zj8 h).2.2.2
 by_cases h1:t.epoch=c.epoch
 ·by_cases h2:c.phase=2
  ·have hk:za8 c t=2:=by unfold za8;rw [if_pos h,if_neg (fun k=>k h1),if_pos h2]
   refine .inr (.inl ⟨h1,h2,?_,hk,by unfold ansT;rw [hk];rfl⟩)
   unfold zal at ha
   rw [if_neg (by omega),if_neg (by omega),if_pos h2] at ha
   have:=of_decide_eq_false ha
   omega
  ·have hk:za8 c t=3:=by unfold za8;rw [if_pos h,if_neg (fun k=>k h1),if_neg h2]
   have h0:c.phase≠0:=by
    intro e
    unfold zal at ha
    rw [if_pos e] at ha
    cases ha
   have h0' : c.phase≠1:=by
    intro e
    unfold zal at ha
    rw [if_neg h0,if_pos e] at ha
    exact of_decide_eq_false ha h1
   refine .inr (.inr ⟨h1,h0,h0',h2,?_,hk,by unfold ansT;rw [hk];rfl⟩)
   intro e
   unfold zal at ha
   rw [if_neg h0,if_neg h0',if_neg h2] at ha
   exact of_decide_eq_false ha ⟨h1,e⟩
 ·have hk:za8 c t=1:=by unfold za8;rw [if_pos h,if_pos h1]
  exact .inl ⟨h1,hk,by unfold ansT;rw [hk];rfl⟩
structure SameT (t u:Thread):Prop where
 live:u.live=t.live
 r0:u.r0=t.r0
 r1:u.r1=t.r1
 r2:u.r2=t.r2
 r3:u.r3=t.r3
 cache:u.cache=t.cache
 ops:u.ops=t.ops
 pc:u.pc=t.pc
 x:u.x=t.x
 y:u.y=t.y
theorem SameT.refl (t:Thread):SameT t t:=⟨rfl,rfl,rfl,rfl,rfl,rfl,rfl,rfl,rfl,rfl⟩
theorem zsA (c:Col) (t:Thread):SameT t (ansT c t):=by
 by_cases h:zaK c t=true
 ·rcases zdx h with ⟨_,_,e⟩ | ⟨_,_,_,_,e⟩ | ⟨_,_,_,_,_,_,e⟩
  ·rw [e];exact ⟨rfl,rfl,rfl,rfl,rfl,rfl,rfl,rfl,rfl,rfl⟩
  ·rw [e];exact ⟨rfl,rfl,rfl,rfl,rfl,rfl,rfl,rfl,rfl,rfl⟩
  ·rw [e]
   by_cases h3:t.root=3
   ·rw [if_pos h3];exact ⟨rfl,rfl,rfl,rfl,rfl,rfl,rfl,rfl,rfl,rfl⟩
   ·rw [if_neg h3];exact ⟨rfl,rfl,rfl,rfl,rfl,rfl,rfl,rfl,rfl,rfl⟩
 ·rw [znx (by simpa using h)]
  exact .refl t
theorem ztQ {c:Col} {t:Thread} (hm:t.mayT):(ansT c t).mayT:=by
 by_cases h:zaK c t=true
 ·obtain ⟨m1,m2,m3,m4,m5,m6,m7,m8⟩:=hm
  rcases zdx h with ⟨_,_,e⟩ | ⟨_,_,_,_,e⟩ | ⟨_,_,_,_,_,_,e⟩
  ·rw [e];exact ⟨by show (0:Int)≤1;omega,by show (1:Int)≤3;omega,by show (0:Int)≤0;omega,by show (0:Int)≤3;omega,m5,m6,m7,m8⟩
  ·rw [e];exact ⟨by show (0:Int)≤2;omega,by show (2:Int)≤3;omega,m3,m4,m5,m6,m7,m8⟩
  ·rw [e]
   by_cases h3:t.root=3
   ·rw [if_pos h3];exact ⟨by show (0:Int)≤3;omega,by show (3:Int)≤3;omega,by show (0:Int)≤0;omega,by show (0:Int)≤3;omega,m5,m6,m7,m8⟩
   ·rw [if_neg h3];exact ⟨m1,m2,by show 0≤t.root+1;omega,by show t.root+1≤3;omega,m5,m6,m7,m8⟩
 ·rw [znx (by simpa using h)]
  exact hm
def rem (c:Col) (t:Thread):Nat:=if zaK c t=true then (if t.epoch≠c.epoch then (if c.phase=1 then 1 else if c.phase=2 then 2 else 5) else if c.phase=2 then 1 else (4 - t.root).toNat) else 0
inductive Roots (c:Col) (n:Nat) (k:Hp) (u:Thread):Prop
 | new (h:n=0) (he:u.epoch≠c.epoch) (ha:zaK c u=true)
 | at_ (he:u.epoch=c.epoch) (ha:zaK c u=true) (hn:(n:Int)≤u.root+1) (hw:∀ r,0≤r→r < u.root→atK k c (u.reg r)≠1)
 | done (ha:zaK c u=false) (hs:u.stage=3) (hr:u.root=0) (hw:∀ r,0≤r→r≤3→atK k c (u.reg r)≠1)
def beginT (c:Col) (t:Thread) (l:List Thread):Thread:=match l.find? (·.live) with
 | some x=>{ t with live:=true,r0:=x.r0,r1:=0,r2:=0,r3:=0,epoch:=x.epoch,stage:=x.stage,root:=0,pc:=0,x:=0,y:=0 }
 | none=>{ t with live:=true,r0:=0,r1:=0,r2:=0,r3:=0,epoch:=if c.phase=0 then 0 else c.epoch,stage:=zcm c.phase,root:=0,pc:=0,x:=0,y:=0 }
def zjc (c:Col) (l:List Thread):Bool:=l.all fun t=>!t.live || zal c t
end Go.Abs
