/- Walks and plain laws: WMutK, WCards2, WScanK, WCardsAll, WScanE, WTraceM, WSweep, WSweepK, WRefOwn, WHeapSets, WRef11, WSweepA, WCardsKeep, WCardsTwice, WSweepC, WHeapTells, WSweepE, WCycleK, WWorldK, WCycleP, WArena2, WScan, WTrace, WHand, WHand2, WHand4. -/
import Derived.Test.YtlankjlnnimdoaaGreatDoorPe
import Derived.Test.YtlankjlnnimdoaaGreatDoorPc
import Derived.Test.YtlankjlnnimdoaaGreatDoorPd
import Derived.Test.YtlankjlnnimdoaaGreatDoorPb
set_option linter.all false
set_option linter.unusedVariables false
set_option linter.unusedSimpArgs false
namespace Go.Abs
set_option maxRecDepth 8000
structure Mu where
 h:Hp
 c:Col
 t:Thread
 r:Res
 told:Bool
def Mu.cells (m:Mu):List DV:=m.h.enc ++ (m.c.enc ++ (EK.enc .thread m.t ++ (EK.enc .res m.r ++ [DV.bo m.told])))
abbrev muV (m:Mu):List CV:=m.cells.map .d
def Mu.op (m:Mu):Op:=m.t.ops.getD 0 default
def zwL (t:Thread):Thread:={ t with ops:=t.ops.drop 1,pc:=0,x:=0,y:=0 }
def zkY (m:Mu):Mu:={ m with t:=zwL m.t }
def zhQ (m:Mu) (e v:Int):Mu:={ m with r:=⟨0,m.op,e,v⟩,told:=true }
def endM (m:Mu) (e v:Int):Mu:=zkY (zhQ m e v)
def zJ (a b:Int):Int:=if a≠0 then a else b
def zc2 (m:Mu) (r a:Int):Mu:=if zA r=0 then { m with t:=m.t.setReg r a } else m
def zgN (c:Col) (t:Thread):Bool:=decide (t.epoch=c.epoch∧1≤c.phase∧c.phase≤5)
def ztR (c:Col) (t:Thread):Bool:=decide (t.epoch=c.epoch∧t.stage=3∧c.phase≠0)
def zbG (m:Mu) (n:Int):Hd:=if ztR m.c m.t=true then ⟨true,false,true,n,m.c.epoch,m.c.epoch⟩ else ⟨true,false,false,n,0,0⟩
def zaZ (m:Mu) (r f:Int):Int:=if zdh m.h m.t r≠0 then zdh m.h m.t r else if f < 0∨zef m.h m.t r≤f then 3 else 0
def zdA (m:Mu) (r f:Int):Int:=if zaZ m r f=0 then zen m.h m.t r else 0
def zc6 (m:Mu) (r f:Int):Int:=if zaZ m r f=0 then zen m.h m.t r+1+f else 0
theorem zrG {m:Mu} {r:Int} (h:zdh m.h m.t r≠0) (f:Int):zaZ m r f=zdh m.h m.t r∧zdA m r f=0∧zc6 m r f=0:=by
 have e:zaZ m r f=zdh m.h m.t r:=by unfold zaZ;rw [if_pos h]
 unfold zdA zc6
 rw [e,if_neg h,if_neg h]
 exact ⟨rfl,rfl,rfl⟩
theorem zkE {m:Mu} {r f:Int} (h:zdh m.h m.t r=0) (h2:f < 0∨zef m.h m.t r≤f):zaZ m r f=3∧zdA m r f=0∧zc6 m r f=0:=by
 have e:zaZ m r f=3:=by unfold zaZ;rw [if_neg (fun k=>k h),if_pos h2]
 unfold zdA zc6
 rw [e]
 exact ⟨rfl,rfl,rfl⟩
theorem zrT {m:Mu} {r f:Int} (h:zdh m.h m.t r=0) (h2:¬ (f < 0∨zef m.h m.t r≤f)):zaZ m r f=0∧zdA m r f=zen m.h m.t r∧zc6 m r f=zen m.h m.t r+1+f:=by
 have e:zaZ m r f=0:=by unfold zaZ;rw [if_neg (fun k=>k h),if_neg h2]
 unfold zdA zc6
 rw [e]
 exact ⟨rfl,rfl,rfl⟩
theorem zt7 {m:Mu} {r f:Int} (h:zaZ m r f=0):zdh m.h m.t r=0∧0≤f∧f < zef m.h m.t r∧zdA m r f=zen m.h m.t r∧zc6 m r f=zen m.h m.t r+1+f:=by
 by_cases h1:zdh m.h m.t r=0
 ·by_cases h2:f < 0∨zef m.h m.t r≤f
  ·rw [(zkE h1 h2).1] at h;cases h
  ·obtain ⟨_,e1,e2⟩:=zrT h1 h2
   exact ⟨h1,by omega,by omega,e1,e2⟩
 ·rw [(zrG h1 f).1] at h;exact absurd h h1
def createM (m:Mu):Mu:=
 if 0 < m.t.pc then endM (zc2 m m.op.a m.t.x) 0 0
 else if zJ (zA m.op.a) (zaE m.op.b)≠0 then endM m (zJ (zA m.op.a) (zaE m.op.b)) 0
 else if zaD m.h m.t.cache (zbG m m.op.b)≠0 then endM m (zaD m.h m.t.cache (zbG m m.op.b)) 0
 else { m with h:=zfk m.h m.t.cache (zbG m m.op.b),t:={ m.t with cache:=takeC m.h m.t.cache (zbG m m.op.b),x:=zhK m.h m.t.cache (zbG m m.op.b),pc:=1 } }
def zd8 (m:Mu):Int:=zh m.h (zc6 m m.op.b m.op.c)
def loadM (m:Mu):Mu:=
 if zA m.op.a≠0 then endM m (zA m.op.a) 0
 else if zaZ m m.op.b m.op.c≠0 then endM m (zaZ m m.op.b m.op.c) 0
 else endM (zc2 m m.op.a (zd8 m)) 0 (if zd8 m≠0 then 1 else 0)
def zia (m:Mu):Mu:=
 if zJ (zaZ m m.op.a m.op.b) (zA m.op.c)≠0 then endM m (zJ (zaZ m m.op.a m.op.b) (zA m.op.c)) 0
 else { m with t:={ m.t with x:=zh m.h (zc6 m m.op.a m.op.b),y:=zvt m.t m.op.c,pc:=1 } }
def zc7 (m:Mu) (a:Int):Mu:={ m with h:=if zgN m.c m.t=true then zaa m.h m.c a else m.h,c:=if zgN m.c m.t=true then zae m.h m.c a else m.c,t:={ m.t with pc:=m.t.pc+1 } }
def zh4 (m:Mu):Mu:=
 if zaZ m m.op.a m.op.b≠0 then endM m 5 0
 else { zhQ m 0 0 with h:={ m.h with w:=m.h.w.set (zc6 m m.op.a m.op.b - 16).toNat m.t.y },t:={ m.t with pc:=4 } }
def zh1 (m:Mu):Mu:=zkY (if zaZ m m.op.a m.op.b=0 then { m with h:=zaU m.h (zdA m m.op.a m.op.b) } else m)
def storeM (m:Mu):Mu:=if m.t.pc=0 then zia m else if m.t.pc=1 then zc7 m m.t.x else if m.t.pc=2 then zc7 m m.t.y else if m.t.pc=3 then zh4 m else zh1 m
def dropM (m:Mu):Mu:=endM (zc2 m m.op.a 0) (zA m.op.a) 0
def zap (m:Mu):Int:=zJ (zA m.op.a) (zA m.op.b)
def sameM (m:Mu):Mu:=endM m (zap m) (if zap m=0∧m.t.reg m.op.a=m.t.reg m.op.b then 1 else 0)
def sizeM (m:Mu):Mu:=endM m (zdh m.h m.t m.op.a) (zef m.h m.t m.op.a)
def exitM (m:Mu):Mu:={ zhQ m 0 0 with h:=zfC m.h m.t.cache,t:=Thread.zero }
def zgC (g:Hp) (t:Thread):Bool:=decide t.mayT && (t.live && (decide (0 < t.ops.length) && zz g [t.cache]))
def zgl (m:Mu):Mu:=
 if m.op.kind=0 then createM m else if m.op.kind=1 then loadM m else if m.op.kind=2 then storeM m else if m.op.kind=3 then dropM m
 else if m.op.kind=4 then sameM m else if m.op.kind=5 then sizeM m else if m.op.kind=6 then exitM m else endM m 1 0
def Res.zero:Res:=⟨0,⟨0,0,0,0⟩,0,0⟩
def mutS (g:Hp) (c:Col) (t:Thread):Mu:=if zgC g t=true then zgl ⟨g,c,t,Res.zero,false⟩ else ⟨g,c,t,Res.zero,false⟩
end Go.Abs
namespace Go.Abs
open Go.Proofs Go.Proofs.YtlankjlnnimdoaaGreatDoor
set_option maxRecDepth 8000
def zmQ (g:Hp) (c:Int) (n:Nat):List Int:=((List.range n).map fun i:Nat=>16+c * 8+(i:Int)).filter fun a=>(zam g).contains a
def onH (g:Hp) (c:Int):List Int:=bif decide (0≤c∧c < (g.cards.length:Int)) then zmQ g c 8 else []
def zgb (g:Hp) (c a:Int):Option Int:=(onH g c).find? fun b=>decide (a < b) && (headH g b).old
theorem zsT (g:Hp) (c:Int) (n:Nat):zmQ g c (n+1)=zmQ g c n ++ (bif (zam g).contains (16+c * 8+(n:Int)) then [16+c * 8+(n:Int)] else []):=by
 unfold zmQ
 rw [List.range_succ,List.map_append,List.filter_append]
 have e:([16+c * 8+(n:Int)]:List Int).filter (fun a=>(zam g).contains a)=bif (zam g).contains (16+c * 8+(n:Int)) then [16+c * 8+(n:Int)] else []:=by
  rw [List.filter_cons,List.filter_nil]
  cases (zam g).contains (16+c * 8+(n:Int)) <;> rfl
 rw [← e]
 rfl
theorem zps (g:Hp) (c:Int) (n:Nat):(zmQ g c n).length≤n:=by
 unfold zmQ
 refine Nat.le_trans (List.length_filter_le _ _) ?_
 simp
theorem zvi (g : Hp) (c : Int) (hl : g.light) : Spec X 244 [] [g.tv, .int c] (Ret [] (.c (.d (.sl .int (onH g c))))) := by
  refine zd X_ok Tryz.f244 (by kernel_rfl) (by kernel_rfl) (by kernel_rfl) fun hb hH => ⟨rfl, ?_⟩
  have hlc : g.cards.length ≤ zD := ((hb (g.tv) (by simp)) (.d (.sl .bool g.cards)) (by simp [Hp.enc])).1
  unfold zD at hlc
  have hcond : (bif decide (c < 0) then true else decide (c ≥ (g.cards.length : Int))) = !decide (0 ≤ c ∧ c < (g.cards.length : Int)) := by
    by_cases h1 : c < 0
    · rw [decide_eq_true h1, decide_eq_false (p := 0 ≤ c ∧ c < (g.cards.length : Int)) (by omega)]; rfl
    · rw [decide_eq_false h1]
      by_cases h2 : c ≥ (g.cards.length : Int)
      · rw [decide_eq_true h2, decide_eq_false (p := 0 ≤ c ∧ c < (g.cards.length : Int)) (by omega)]; rfl
      · rw [decide_eq_false h2, decide_eq_true (p := 0 ≤ c ∧ c < (g.cards.length : Int)) (by omega)]; rfl
  unfold onH
  show ABr (bif decide (c < 0) then true else decide (c ≥ (g.cards.length : Int))) _ _
  rw [hcond]
  cases hin : decide (0 ≤ c ∧ c < (g.cards.length : Int)) with
  | false =>
    show ABr _ _ _
    refine ⟨fun _ => ?_, fun h => absurd h (by decide)⟩
    show ARet _ _ _
    exact zfu (.nilsl rfl) ⟨rfl, rfl⟩
  | true =>
    have hin := of_decide_eq_true hin
    show ABr _ _ _
    refine ⟨fun h => absurd h (by decide), fun _ => ?_⟩
    show ACall _ _ _ _ _ _
    refine za (zgX g hl) rfl ?_
    show ∃ n, _
    refine ⟨0, ALoop.inv (ι := {i : Nat // i ≤ 8}) (fun i => ⟨[(1, .int c), (5, .c (.d (.sl .int (zam g)))), (6, .c (.own 1)), (20, .int i.1)], [(1, .data .int (zmQ g c i.1))], 64⟩) (fun i => 8 - i.1) ⟨0, Nat.zero_le _⟩ ?_ ?_⟩
    · exact ⟨[], .cons _ _ _ .same (.cons _ _ _ .same (.cons _ _ _ (.c _ _ (.nilown 1 .int rfl rfl)) (.cons _ _ _ .same .nil))), .new 1 .int _ rfl .nil, rfl⟩
    · rintro ⟨i, hi⟩
      show ABr (decide ((i : Int) < 8)) _ _
      refine ⟨fun h => ?_, fun h => ?_⟩
      · have hlt : i < 8 := by have := of_decide_eq_true h; omega
        have w1 : IntKind.i64.wrap (c * 8) = c * 8 := zB (by omega) (by omega)
        have w2 : IntKind.i64.wrap (16 + c * 8) = 16 + c * 8 := zB (by omega) (by omega)
        have w3 : IntKind.i64.wrap (16 + c * 8 + (i : Int)) = 16 + c * 8 + (i : Int) := zB (by omega) (by omega)
        have wi : IntKind.i64.wrap ((i : Int) + 1) = ((i + 1 : Nat) : Int) := by rw [zB (by omega) (by omega)]; rfl
        have hs := zsT g c i
        have hlen := zps g c i
        show ACall _ _ [_, .int (IntKind.i64.wrap (IntKind.i64.wrap (16 + IntKind.i64.wrap (c * 8)) + (i : Int)))] _ _ _
        rw [w1, w2, w3]
        refine za (zlb (zam g) (16 + c * 8 + (i : Int))) rfl ?_
        show ABr ((zam g).contains (16 + c * 8 + (i : Int))) _ _
        refine ⟨fun h => ?_, fun h => ?_⟩
        · rw [h] at hs
          show AOb ((zmQ g c i).length + 1 ≤ most) _
          refine ⟨by unfold most; omega, ?_⟩
          show ARound _ _ _ _
          exact ⟨⟨i + 1, hlt⟩, by show 8 - (i + 1) < 8 - i; omega, [(_, 1)], .cons _ _ _ .same (.cons _ _ _ .same (.cons _ _ _ (.c _ _ (.own1 _ _)) (.cons _ _ _ (.int_eq wi) .nil))), .old 1 _ _ _ _ rfl rfl (.data_eq hs.symm) .nil, rfl⟩
        · rw [h] at hs
          show ARound _ _ _ _
          exact ⟨⟨i + 1, hlt⟩, by show 8 - (i + 1) < 8 - i; omega, [(1, 1)], .cons _ _ _ .same (.cons _ _ _ .same (.cons _ _ _ (.c _ _ (.own1 _ _)) (.cons _ _ _ (.int_eq wi) .nil))), .old 1 1 _ _ _ rfl rfl (.data_eq (by rw [hs]; exact (List.append_nil _).symm)) .nil, rfl⟩
      · have hge : i = 8 := by have := of_decide_eq_false h; omega
        subst hge
        show ARet _ _ _
        exact zfu (.frz (k := .int) (l := zmQ g c 8) rfl rfl) ⟨rfl, rfl⟩
theorem zp7 (g:Hp) (c a:Int) (hl:g.light):Spec X 209 [] [g.tv,.int c,.int a] (Ret [] (.tup [.int ((zgb g c a).getD 0),.bo (zgb g c a).isSome])):=by
 refine zd X_ok Tryz.f209 (by kernel_rfl) (by kernel_rfl) (by kernel_rfl) fun hb hH=>⟨rfl,?_⟩
 show ACall ..
 refine za (zvi g c hl) rfl ?_
 obtain ⟨O,hO⟩:∃ O,O=onH g c:=⟨_,rfl⟩
 have hlen:O.length≤8:=by
  rw [hO]
  unfold onH
  cases decide (0≤c∧c < (g.cards.length:Int))
  ·exact Nat.zero_le _
  ·exact zps g c 8
 rw [← hO]
 obtain ⟨o,ho⟩:∃ o,o=zgb g c a:=⟨_,rfl⟩
 rw [← ho]
 show ∃ n,_
 refine ⟨0,ALoop.inv (ι:={i:Nat // i≤O.length∧zgb g c a=(O.drop i).find? fun b=>decide (a < b) && (headH g b).old}) (fun i=>⟨[(2,.int a),(3,.c (.d (.rp g.enc))),(14,.c (.d (.sl .int O))),(15,.int O.length),(16,.int i.1)],[],64⟩) (fun i=>O.length - i.1) ⟨0,Nat.zero_le _,by unfold zgb;rw [← hO];rfl⟩ ?_ ?_⟩
 ·exact ⟨[],.cons _ _ _ .same (.cons _ _ _ (.c _ _ (.frz _ _ rfl)) (.cons _ _ _ .same (.cons _ _ _ .same (.cons _ _ _ .same .nil)))),.nil,rfl⟩
 ·rintro ⟨i,hi,he⟩
  show ABr (decide ((i:Int) < (O.length:Int))) _ _
  refine ⟨fun h=>?_,fun h=>?_⟩
  ·have hlt:i < O.length:=by simpa using h
   have wi:IntKind.i64.wrap ((i:Int)+1)=((i+1:Nat):Int):=zad (i:=i) (by unfold zD;omega)
   obtain ⟨b,hbb⟩:∃ b,b=O.getD i default:=⟨_,rfl⟩
   have hd:O.drop i=b :: O.drop (i+1):=by rw [hbb];exact zkr hlt
   rw [hd,List.find?_cons] at he
   show AOb ((0:Int)≤(i:Int)∧(i:Int) < (O.length:Int)) _
   refine ⟨by omega,?_⟩
   show ABr (decide (O.getD i default≤a)) _ _
   rw [← hbb]
   refine ⟨fun h=>?_,fun h=>?_⟩
   ·have hle:=of_decide_eq_true h
    rw [decide_eq_false (by omega)] at he
    show ARound ..
    exact ⟨⟨i+1,hlt,he⟩,by show O.length - (i+1) < O.length - i;omega,[],.cons _ _ _ .same (.cons _ _ _ .same (.cons _ _ _ .same (.cons _ _ _ .same (.cons _ _ _ (.int_eq wi) .nil)))),.nil,rfl⟩
   ·have hgt:=of_decide_eq_false h
    rw [decide_eq_true (by omega)] at he
    show ACall _ _ [_,.int (O.getD i default)] _ _ _
    rw [← hbb]
    refine za (zav g b hl) rfl ?_
    show ABr (headH g b).old _ _
    refine ⟨fun h=>?_,fun h=>?_⟩
    ·rw [h] at he
     have e1:o=some b:=ho.trans he
     subst e1 hbb
     show ARet ..
     exact zi rfl ⟨rfl,rfl⟩
    ·rw [h] at he
     show ARound ..
     exact ⟨⟨i+1,hlt,he⟩,by show O.length - (i+1) < O.length - i;omega,[],.cons _ _ _ .same (.cons _ _ _ .same (.cons _ _ _ .same (.cons _ _ _ .same (.cons _ _ _ (.int_eq wi) .nil)))),.nil,rfl⟩
  ·have hge:i=O.length:=by simp at h;omega
   rw [hge,List.drop_length] at he
   have e1:o=none:=ho.trans he
   subst e1
   show ARet ..
   exact zi rfl ⟨rfl,rfl⟩
end Go.Abs
namespace Go.Abs
def zgz (g:Hp) (a:Int):Bool:=decide (headE g a=0) && !(headH g a).old
def zc9 (g:Hp) (c:Col) (v:Int):Hp × Col:=if zgz g v=true then (zaa g c v,{ zae g c v with met:=true }) else (g,c)
def zoT (g:Hp) (c:Col):Hp × Col:=
 if headE g c.at_≠0∨c.field_ < 0∨(headH g c.at_).n≤c.field_ then (g,{ c with at_:=0,field_:=0 })
 else if c.field_+1=(headH g c.at_).n then ((zc9 g c (wordOf g (c.at_+1+c.field_))).1,{ (zc9 g c (wordOf g (c.at_+1+c.field_))).2 with at_:=0,field_:=0 })
 else ((zc9 g c (wordOf g (c.at_+1+c.field_))).1,{ (zc9 g c (wordOf g (c.at_+1+c.field_))).2 with field_:=c.field_+1 })
def zoz (g:Hp) (c:Col):Hp × Col:=
 if g.cards.getD c.card.toNat false=true then (zdU g c.card false,{ c with seek:=1,met:=false,at_:=0,field_:=0 }) else (g,{ c with card:=c.card+1 })
def zsb (g:Hp) (c:Col):Hp × Col:=
 ((if c.met=true then zdU g c.card true else g),{ c with card:=c.card+1,seek:=0,met:=false })
def ziK (g : Hp) (c : Col) : Hp × Col :=
  if zz g [] = true ∧ c.phase = 4 ∧ 0 ≤ c.card then
    (if (g.cards.length : Int) ≤ c.card then (g, { c with phase := 5, seek := 0, card := 0, met := false, at_ := 0, field_ := 0 })
     else if c.seek = 0 then zoz g c
     else if c.at_ ≠ 0 then zoT g c
     else match zgb g c.card c.seek with
       | some a => (g, { c with at_ := a, field_ := 0, seek := a })
       | none => zsb g c)
  else (g, c)
inductive SStep (g:Hp) (c:Col):Hp→Col→Prop
 | idle (h:¬ (zz g []=true∧c.phase=4∧0≤c.card)):SStep g c g c
 | fin (hm:zz g []=true) (hp:c.phase=4) (hc:(g.cards.length:Int)≤c.card):SStep g c g { c with phase:=5,seek:=0,card:=0,met:=false,at_:=0,field_:=0 }
 | clean (hm:zz g []=true) (hp:c.phase=4) (h0:0≤c.card) (hc:c.card < (g.cards.length:Int)) (hs:c.seek=0) (hd:g.cards.getD c.card.toNat false=true):SStep g c (zdU g c.card false) { c with seek:=1,met:=false,at_:=0,field_:=0 }
 | skip (hm:zz g []=true) (hp:c.phase=4) (h0:0≤c.card) (hc:c.card < (g.cards.length:Int)) (hs:c.seek=0) (hd:g.cards.getD c.card.toNat false=false):SStep g c g { c with card:=c.card+1 }
 | lost (hm:zz g []=true) (hp:c.phase=4) (h0:0≤c.card) (hc:c.card < (g.cards.length:Int)) (hs:c.seek≠0) (ha:c.at_≠0) (hf:headE g c.at_≠0∨c.field_ < 0∨(headH g c.at_).n≤c.field_):SStep g c g { c with at_:=0,field_:=0 }
 | last (hm:zz g []=true) (hp:c.phase=4) (h0:0≤c.card) (hc:c.card < (g.cards.length:Int)) (hs:c.seek≠0) (ha:c.at_≠0) (hE:headE g c.at_=0) (hf:0≤c.field_) (hl:c.field_+1=(headH g c.at_).n) (v:Int) (hv:v=wordOf g (c.at_+1+c.field_)) :
   SStep g c (zc9 g c v).1 { (zc9 g c v).2 with at_:=0,field_:=0 }
 | more (hm:zz g []=true) (hp:c.phase=4) (h0:0≤c.card) (hc:c.card < (g.cards.length:Int)) (hs:c.seek≠0) (ha:c.at_≠0) (hE:headE g c.at_=0) (hf:0≤c.field_) (hl:c.field_+1 < (headH g c.at_).n) (v:Int) (hv:v=wordOf g (c.at_+1+c.field_)) :
   SStep g c (zc9 g c v).1 { (zc9 g c v).2 with field_:=c.field_+1 }
 | next (hm:zz g []=true) (hp:c.phase=4) (h0:0≤c.card) (hc:c.card < (g.cards.length:Int)) (hs:c.seek≠0) (ha:c.at_=0) (a:Int) (hn:zgb g c.card c.seek=some a):SStep g c g { c with at_:=a,field_:=0,seek:=a }
 | done (hm:zz g []=true) (hp:c.phase=4) (h0:0≤c.card) (hc:c.card < (g.cards.length:Int)) (hs:c.seek≠0) (ha:c.at_=0) (hn:zgb g c.card c.seek=none):SStep g c (if c.met=true then zdU g c.card true else g) { c with card:=c.card+1,seek:=0,met:=false }
theorem zs3 (g:Hp) (c:Col):SStep g c (ziK g c).1 (ziK g c).2:=by
 unfold ziK
 by_cases h:zz g []=true∧c.phase=4∧0≤c.card
 ·rw [if_pos h]
  obtain ⟨hm,hp,h0⟩:=h
  by_cases hc:(g.cards.length:Int)≤c.card
  ·rw [if_pos hc];exact .fin hm hp hc
  ·rw [if_neg hc]
   have hc:c.card < (g.cards.length:Int):=by omega
   by_cases hs:c.seek=0
   ·rw [if_pos hs]
    unfold zoz
    cases hd:g.cards.getD c.card.toNat false with
    | true=>rw [if_pos rfl];exact .clean hm hp h0 hc hs hd
    | false=>rw [if_neg (by decide)];exact .skip hm hp h0 hc hs hd
   ·rw [if_neg hs]
    by_cases ha:c.at_≠0
    ·rw [if_pos ha]
     unfold zoT
     by_cases hf:headE g c.at_≠0∨c.field_ < 0∨(headH g c.at_).n≤c.field_
     ·rw [if_pos hf];exact .lost hm hp h0 hc hs ha hf
     ·rw [if_neg hf]
      have hE:headE g c.at_=0:=Classical.byContradiction fun e=>hf (.inl e)
      by_cases hl:c.field_+1=(headH g c.at_).n
      ·rw [if_pos hl];exact .last hm hp h0 hc hs ha hE (by omega) hl _ rfl
      ·rw [if_neg hl];exact .more hm hp h0 hc hs ha hE (by omega) (by omega) _ rfl
    ·rw [if_neg ha]
     have ha:c.at_=0:=by simpa using ha
     cases hn:zgb g c.card c.seek with
     | some a=>exact .next hm hp h0 hc hs ha a hn
     | none=>exact .done hm hp h0 hc hs ha hn
 ·rw [if_neg h];exact .idle h
theorem zfO (g:Hp) (c:Col) (v:Int):(zgz g v=true∧zc9 g c v=(zaa g c v,{ zae g c v with met:=true }))∨(zgz g v=false∧zc9 g c v=(g,c)):=by
 unfold zc9
 cases zgz g v with
 | true=>exact .inl ⟨rfl,if_pos rfl⟩
 | false=>exact .inr ⟨rfl,if_neg (by decide)⟩
theorem zrH (g:Hp) (c:Col) (v:Int):(zc9 g c v).2.phase=c.phase∧(zc9 g c v).2.epoch=c.epoch∧(zc9 g c v).2.major=c.major∧(zc9 g c v).2.at_=c.at_∧(zc9 g c v).2.field_=c.field_∧(zc9 g c v).2.seek=c.seek∧(zc9 g c v).2.card=c.card:=by
 rcases zfO g c v with ⟨_,e⟩ | ⟨_,e⟩ <;> rw [e]
 ·have h:=za4 g c v
  exact ⟨h.phase,h.epoch,h.major,h.at_,h.field_,h.seek,h.card⟩
 ·exact ⟨rfl,rfl,rfl,rfl,rfl,rfl,rfl⟩
end Go.Abs
namespace Go.Abs
open Go.Proofs Go.Proofs.YtlankjlnnimdoaaGreatDoor
set_option maxRecDepth 8000
end Go.Abs
namespace Go.Abs
end Go.Abs
namespace Go.Abs
end Go.Abs
namespace Go.Abs
open Go.Proofs Go.Proofs.YtlankjlnnimdoaaGreatDoor
set_option maxRecDepth 8000
def zbU (g:Hp) (c:Col) (a:Int):Int:=if headE g a≠0∨((headH g a).old=true∧c.major=false) then 0 else if (headH g a).mark < c.epoch then 1 else if (headH g a).old=false∧(headH g a).born < c.epoch then 2 else 0
theorem zfp (g:Hp) (c:Col) (a:Int):zbU g c a=0∨(zbU g c a=1∧headE g a=0)∨(zbU g c a=2∧headE g a=0):=by
 unfold zbU
 split
 ·exact .inl rfl
 ·rename_i h
  have h:headE g a=0:=Classical.byContradiction fun k=>h (.inl k)
  split
  ·exact .inr (.inl ⟨rfl,h⟩)
  ·split
   ·exact .inr (.inr ⟨rfl,h⟩)
   ·exact .inl rfl
theorem zlE {c d:Col} (h1:d.epoch=c.epoch) (h2:d.major=c.major) (g:Hp) (a:Int):zbU g d a=zbU g c a:=by unfold zbU;rw [h1,h2]
theorem zl8 (g:Hp) (c:Col) (a:Int) (hl:g.light):Spec X 248 [] [g.tv,c.tv,.int a] (Ret [] (.int (zbU g c a))):=by
 refine zd X_ok Tryz.f248 (by kernel_rfl) (by kernel_rfl) (by kernel_rfl) fun hb hH=>⟨rfl,?_⟩
 show ACall ..
 refine za (zav g a hl) rfl ?_
 unfold zbU
 by_cases hE:headE g a=0
 ·show ABr (!decide (headE g a=0)) _ _
  rw [decide_eq_true hE]
  show ABr ..
  refine ⟨fun h=>absurd h (by decide),fun _=>?_⟩
  by_cases h1:(headH g a).old=true∧c.major=false
  ·rw [if_pos (.inr h1)]
   show ABr (bif (headH g a).old then !c.major else false) _ _
   rw [h1.1,h1.2]
   show ABr ..
   refine ⟨fun _=>?_,fun h=>absurd h (by decide)⟩
   show ARet ..
   exact zi rfl ⟨rfl,rfl⟩
  ·rw [if_neg (fun k=>k.elim (fun k=>k hE) h1)]
   show ABr (bif (headH g a).old then !c.major else false) _ _
   rw [show (bif (headH g a).old then !c.major else false)=false by cases ho:(headH g a).old <;> cases hm:c.major <;> first | rfl | exact absurd ⟨ho,hm⟩ h1]
   show ABr ..
   refine ⟨fun h=>absurd h (by decide),fun _=>?_⟩
   show ABr (decide ((headH g a).mark < c.epoch)) _ _
   by_cases h2:(headH g a).mark < c.epoch
   ·rw [if_pos h2,decide_eq_true h2]
    show ABr ..
    refine ⟨fun _=>?_,fun h=>absurd h (by decide)⟩
    show ARet ..
    exact zi rfl ⟨rfl,rfl⟩
   ·rw [if_neg h2,decide_eq_false h2]
    show ABr ..
    refine ⟨fun h=>absurd h (by decide),fun _=>?_⟩
    show ABr (bif !(headH g a).old then decide ((headH g a).born < c.epoch) else false) _ _
    by_cases h3:(headH g a).old=false∧(headH g a).born < c.epoch
    ·rw [if_pos h3,h3.1,decide_eq_true h3.2]
     show ABr ..
     refine ⟨fun _=>?_,fun h=>absurd h (by decide)⟩
     show ARet ..
     exact zi rfl ⟨rfl,rfl⟩
    ·rw [if_neg h3,show (bif !(headH g a).old then decide ((headH g a).born < c.epoch) else false)=false by cases ho:(headH g a).old <;> first | rfl | exact decide_eq_false fun k=>h3 ⟨ho,k⟩]
     show ABr ..
     refine ⟨fun h=>absurd h (by decide),fun _=>?_⟩
     show ARet ..
     exact zi rfl ⟨rfl,rfl⟩
 ·rw [if_pos (.inl hE)]
  show ABr (!decide (headE g a=0)) _ _
  rw [decide_eq_false hE]
  show ABr ..
  refine ⟨fun _=>?_,fun h=>absurd h (by decide)⟩
  show ABr (!decide (headE g a=0)) _ _
  rw [decide_eq_false hE]
  show ABr ..
  refine ⟨fun _=>?_,fun h=>absurd h (by decide)⟩
  show ARet ..
  exact zi rfl ⟨rfl,rfl⟩
def swV (g:Hp) (c:Col):List CV:=(g.enc ++ c.enc).map .d
theorem zqi (g:Hp) (c:Col) (hs:g.small) (hw:c.work.length≤most):Spec X 215 [] [g.tv,c.tv] (Ret [(0,.vars (swV g c))] (.c (.ptr 0 0 0))):=by
 refine zd X_ok Tryz.f215 (by kernel_rfl) (by kernel_rfl) (by kernel_rfl) fun hb hH=>⟨rfl,?_⟩
 obtain ⟨h1,h2,h3,h4,h5,h6⟩:=hs
 show ADCall ..
 refine .mk _ _ (ze g.w h1) rfl ?_
 show ADCall ..
 refine .mk _ _ (zW g.pages h2) rfl ?_
 show ADCall ..
 refine .mk _ _ (zaf g.cards h3) rfl ?_
 show ∃ n,_
 refine ⟨4,?_⟩
 show ALoop ..
 refine .next ?_
 show ABr ..
 refine ⟨fun _=>?_,fun h=>absurd h (by decide)⟩
 show AOb ..
 refine ⟨by decide,?_⟩
 show ACall ..
 refine za (ze g.free.l0 h4) rfl ?_
 show AOb ..
 refine ⟨by decide,?_⟩
 show ALoop ..
 refine .next ?_
 show ABr ..
 refine ⟨fun _=>?_,fun h=>absurd h (by decide)⟩
 show AOb ..
 refine ⟨by decide,?_⟩
 show ACall ..
 refine za (ze g.free.l1 h5) rfl ?_
 show AOb ..
 refine ⟨by decide,?_⟩
 show ALoop ..
 refine .next ?_
 show ABr ..
 refine ⟨fun _=>?_,fun h=>absurd h (by decide)⟩
 show AOb ..
 refine ⟨by decide,?_⟩
 show ACall ..
 refine za (ze g.free.l2 h6) rfl ?_
 show AOb ..
 refine ⟨by decide,?_⟩
 show ALoop ..
 refine .next ?_
 show ABr ..
 refine ⟨fun h=>absurd h (by decide),fun _=>?_⟩
 show ACall ..
 refine za (ze c.work hw) rfl ?_
 show ARet ..
 exact ⟨[(_,0)],[(0,.vars (swV g c))],[.c (.ptr 0 0 0)],.cons _ _ _ _ (.c _ _ (.ptr1 _ _ _ _)) .nil,.old 0 _ _ _ _ rfl rfl (.vars _ _ (zb rfl)) .nil,rfl,rfl,rfl⟩
theorem zpx (g:Hp) (c:Col) (a:Int) (hl:g.light) (hs:g.small):Spec X 249 [(16,.vars (swV g c))] [.c (.ptr 16 0 0),.int a] (fun H r=>H=[(16,.vars (swV (zhz g a) c))]∧r = .tup []):=by
 refine zd X_ok Tryz.f249 (by kernel_rfl) (by kernel_rfl) (by kernel_rfl) fun hb hH=>⟨rfl,?_⟩
 show ACall ..
 refine za (zsq g a hl hs) rfl ?_
 show ARet ..
 exact ⟨[(16,16)],[(16,.vars (swV (zhz g a) c))],[],.nil,.old 16 16 _ _ _ rfl rfl (.vars _ _ (zb rfl)) .nil,rfl,rfl,rfl⟩
theorem zmz (g:Hp) (c:Col) (a:Int) (hl:g.light) (ha:a < 9223372036854775808):Spec X 250 [(16,.vars (swV g c))] [.c (.ptr 16 0 0),.int a] (fun H r=>H=[(16,.vars (swV (zaU g a) { c with met:=true }))]∧r = .tup []):=by
 refine zd X_ok Tryz.f250 (by kernel_rfl) (by kernel_rfl) (by kernel_rfl) fun hb hH=>⟨rfl,?_⟩
 show ACall ..
 refine za (zgQ g a hl ha) rfl ?_
 show ARet ..
 exact ⟨[(16,16)],[(16,.vars (swV (zaU g a) { c with met:=true }))],[],.nil,.old 16 16 _ _ _ rfl rfl (.vars _ _ (zb rfl)) .nil,rfl,rfl,rfl⟩
theorem zq3 (g:Hp) (c:Col):Spec X 218 [(16,.vars (swV g c))] [.c (.ptr 16 0 0)] (fun H r=>H=[(16,.vars (swV g ⟨0,c.epoch,c.major,[],false,0,0,0,0,false⟩))]∧r = .tup []):=by
 refine zd X_ok Tryz.f218 (by kernel_rfl) (by kernel_rfl) (by kernel_rfl) fun hb hH=>⟨rfl,?_⟩
 show ARet ..
 exact ⟨[(16,16)],[(16,.vars (swV g ⟨0,c.epoch,c.major,[],false,0,0,0,0,false⟩))],[],.nil,.old 16 16 _ _ _ rfl rfl (.vars _ _ (.cons _ _ _ _ (.d _) (.cons _ _ _ _ (.d _) (.cons _ _ _ _ (.d _) (.cons _ _ _ _ (.d _) (.cons _ _ _ _ (.d _) (.cons _ _ _ _ (.d _) (.cons _ _ _ _ (.d _) (.cons _ _ _ _ (.d _) (.cons _ _ _ _ (.d _) (.cons _ _ _ _ (.nilsl .int) (.cons _ _ _ _ (.d _) (.cons _ _ _ _ (.d _) (.cons _ _ _ _ (.d _) (.cons _ _ _ _ (.d _) (.cons _ _ _ _ (.d _) (.cons _ _ _ _ (.d _) .nil))))))))))))))))) .nil,rfl,rfl,rfl⟩
def zvL (g:Hp) (c:Col):Hp:=if zbU g c c.seek=2 then zhV g c.seek { headH g c.seek with old:=true } else g
theorem zrn (g:Hp) (c:Col) (hl:g.light):Spec X 216 [(16,.vars (swV g c))] [.c (.ptr 16 0 0),.int c.seek] (fun H r=>H=[(16,.vars (swV (zvL g c) { c with met:=false }))]∧r = .tup []):=by
 refine zd X_ok Tryz.f216 (by kernel_rfl) (by kernel_rfl) (by kernel_rfl) fun hb hH=>⟨rfl,?_⟩
 show ADCall ..
 refine .mk _ _ (zl8 g { c with met:=false } c.seek hl) rfl ?_
 rw [zlE (c:=c) (d:={ c with met:=false }) rfl rfl]
 unfold zvL
 by_cases h:zbU g c c.seek=2
 ·rw [if_pos h]
  show ABr (!decide (zbU g c c.seek=2)) _ _
  rw [decide_eq_true h]
  show ABr ..
  refine ⟨fun h=>absurd h (by decide),fun _=>?_⟩
  show ACall ..
  refine za (zav g c.seek hl) rfl ?_
  show ADCall ..
  refine .mk _ _ (ziD g c.seek { headH g c.seek with old:=true } hl) rfl ?_
  show ARet ..
  exact ⟨[(16,16)],[(16,.vars (swV (zhV g c.seek { headH g c.seek with old:=true }) { c with met:=false }))],[],.nil,.old 16 16 _ _ _ rfl rfl (.vars _ _ (zb rfl)) .nil,rfl,rfl,rfl⟩
 ·rw [if_neg h]
  show ABr (!decide (zbU g c c.seek=2)) _ _
  rw [decide_eq_false h]
  show ABr ..
  refine ⟨fun _=>?_,fun h=>absurd h (by decide)⟩
  show ARet ..
  exact ⟨[(16,16)],[(16,.vars (swV g { c with met:=false }))],[],.nil,.old 16 16 _ _ _ rfl rfl (.vars _ _ (zb rfl)) .nil,rfl,rfl,rfl⟩
def znG (g:Hp) (c:Col) (a:Int):Hp × Col:=if zbU g c a=1 then (zhz g a,{ c with seek:=a }) else if zbU g c a=2 then (zaU g a,{ c with seek:=a,met:=true }) else (g,{ c with seek:=a })
set_option maxRecDepth 60000 in
set_option maxHeartbeats 2000000 in
theorem zpd (g:Hp) (c:Col) (a:Int) (hl:g.light) (hs:g.small) (ha:a < 9223372036854775808):Spec X 217 [(16,.vars (swV g c))] [.c (.ptr 16 0 0),.int a] (fun H r=>H=[(16,.vars (swV (znG g c a).1 (znG g c a).2))]∧r = .tup []):=by
 refine zd X_ok Tryz.f217 (by kernel_rfl) (by kernel_rfl) (by kernel_rfl) fun hb hH=>⟨rfl,?_⟩
 have fs:=zl8 g { c with seek:=a } a hl
 rw [zlE (c:=c) (d:={ c with seek:=a }) rfl rfl] at fs
 unfold znG
 rcases zfp g c a with h | ⟨h,_⟩ | ⟨h,_⟩
 ·rw [h] at fs ⊢
  show ADCall ..
  refine .mk _ _ (fs) rfl ?_
  show ABr ..
  refine ⟨fun h=>absurd h (by decide),fun _=>?_⟩
  show ARet ..
  exact ⟨[(16,16)],[(16,.vars (swV g { c with seek:=a }))],[],.nil,.old 16 16 _ _ _ rfl rfl (.vars _ _ (zb rfl)) .nil,rfl,rfl,rfl⟩
 ·rw [h] at fs ⊢
  show ADCall ..
  refine .mk _ _ (fs) rfl ?_
  show ABr ..
  refine ⟨fun _=>?_,fun h=>absurd h (by decide)⟩
  show ACall ..
  refine .hand [(16,16)] [(16,.vars (swV g { c with seek:=a }))] [.c (.ptr 16 0 0),.int a] _ (.cons _ _ _ _ (.c _ _ (.ptr _ _ _ _ rfl)) (.cons _ _ _ _ .same .nil)) (.old 16 16 _ _ _ rfl rfl (.vars _ _ (zb rfl)) .nil) rfl (zpx g { c with seek:=a } a hl hs) ?_
  rintro H r ⟨rfl,rfl⟩ _ _
  refine ⟨rfl,.inl rfl,?_⟩
  show ARet ..
  exact ⟨[(16,16)],[(16,.vars (swV (zhz g a) { c with seek:=a }))],[],.nil,.old 16 16 _ _ _ rfl rfl (.vars _ _ (zb rfl)) .nil,rfl,rfl,rfl⟩
 ·rw [h] at fs ⊢
  show ADCall ..
  refine .mk _ _ (fs) rfl ?_
  show ABr ..
  refine ⟨fun _=>?_,fun h=>absurd h (by decide)⟩
  show ACall ..
  refine .hand [(16,16)] [(16,.vars (swV g { c with seek:=a }))] [.c (.ptr 16 0 0),.int a] _ (.cons _ _ _ _ (.c _ _ (.ptr _ _ _ _ rfl)) (.cons _ _ _ _ .same .nil)) (.old 16 16 _ _ _ rfl rfl (.vars _ _ (zb rfl)) .nil) rfl (zmz g { c with seek:=a } a hl ha) ?_
  rintro H r ⟨rfl,rfl⟩ _ _
  refine ⟨rfl,.inl rfl,?_⟩
  show ARet ..
  exact ⟨[(16,16)],[(16,.vars (swV (zaU g a) { c with seek:=a,met:=true }))],[],.nil,.old 16 16 _ _ _ rfl rfl (.vars _ _ (zb rfl)) .nil,rfl,rfl,rfl⟩
def zfE (g : Hp) (c : Col) : Hp × Col :=
  if zz g [] = true ∧ c.phase = 6 then
    (if c.met = true then (zvL g c, { c with met := false })
     else if ziI g.pages c.seek = true then znG g c (zac g.pages c.seek)
     else (g, ⟨0, c.epoch, c.major, [], false, 0, 0, 0, 0, false⟩))
  else (g, c)
theorem zvG {l : List Page} {a : Int} : zac l a < 9223372036854775808 := by
  unfold zac
  cases h : (cellStarts l).find? fun s => decide (a < s) with
  | none => show (0 : Int) < _; omega
  | some x =>
    have hx := List.mem_of_find?_eq_some h
    obtain ⟨hm, j, hj⟩ := zaq (zx (zt.1 hx))
    have h1 : x < 16 * ((j : Int) + 2) := hj.hi
    have h2 := hj.lt
    have h3 := (zah hm).2.2
    show x < _
    omega
set_option maxRecDepth 60000 in
set_option maxHeartbeats 2000000 in
theorem zpG (g : Hp) (c : Col) (hl : g.light) (hs : g.small) (hk : c.work.length ≤ most) : Spec X 164 [] [g.tv, c.tv] (Ret [] (.tup [(zfE g c).1.tv, (zfE g c).2.tv])) := by
  refine zd X_ok Tryz.f164 (by kernel_rfl) (by kernel_rfl) (by kernel_rfl) fun hb hH => ⟨rfl, ?_⟩
  show ACall _ _ _ _ _ _
  refine .mk _ (zqi g c hs hk) fun H r ⟨eH, er⟩ _ _ => ⟨.inl rfl, ?_⟩
  subst eH er
  show ACall _ _ _ _ _ _
  refine za (zjO g.pages c.seek) rfl ?_
  show ACall _ _ _ _ _ _
  refine za (zbv g hl) rfl ?_
  unfold zfE
  by_cases hm : zz g [] = true
  · show ABr (!zz g []) _ _
    rw [hm]
    show ABr _ _ _
    refine ⟨fun h => absurd h (by decide), fun _ => ?_⟩
    show ABr (!decide (c.phase = 6)) _ _
    by_cases hp : c.phase = 6
    · rw [if_pos ⟨rfl, hp⟩, decide_eq_true hp]
      show ABr _ _ _
      refine ⟨fun h => absurd h (by decide), fun _ => ?_⟩
      show ABr c.met _ _
      refine ⟨fun hmet => ?_, fun hmet => ?_⟩
      · rw [if_pos hmet]
        show ACall _ _ _ _ _ _
        refine .hand [(224, 16)] [(16, .vars (swV g c))] [.c (.ptr 16 0 0), .int c.seek] _ (.cons _ _ _ _ (.c _ _ (.ptr _ _ _ _ rfl)) (.cons _ _ _ _ .same .nil)) (.old 16 224 _ _ _ rfl rfl (.vars _ _ (zb rfl)) .nil) rfl (zrn g c hl) ?_
        rintro H r ⟨rfl, rfl⟩ _ _
        refine ⟨rfl, .inl rfl, ?_⟩
        show ARet _ _ _
        exact zi rfl ⟨rfl, rfl⟩
      · rw [if_neg (by rw [hmet]; decide)]
        show ABr (ziI g.pages c.seek) _ _
        cases hn : ziI g.pages c.seek with
        | true =>
          rw [if_pos rfl]
          show ABr _ _ _
          refine ⟨fun _ => ?_, fun h => absurd h (by decide)⟩
          show ACall _ _ _ _ _ _
          refine .hand [(224, 16)] [(16, .vars (swV g c))] [.c (.ptr 16 0 0), .int (zac g.pages c.seek)] _ (.cons _ _ _ _ (.c _ _ (.ptr _ _ _ _ rfl)) (.cons _ _ _ _ .same .nil)) (.old 16 224 _ _ _ rfl rfl (.vars _ _ (zb rfl)) .nil) rfl (zpd g c (zac g.pages c.seek) hl hs zvG) ?_
          rintro H r ⟨rfl, rfl⟩ _ _
          refine ⟨rfl, .inl rfl, ?_⟩
          show ARet _ _ _
          exact zi rfl ⟨rfl, rfl⟩
        | false =>
          rw [if_neg (by decide)]
          show ABr _ _ _
          refine ⟨fun h => absurd h (by decide), fun _ => ?_⟩
          show ACall _ _ _ _ _ _
          refine .hand [(224, 16)] [(16, .vars (swV g c))] [.c (.ptr 16 0 0)] _ (.cons _ _ _ _ (.c _ _ (.ptr _ _ _ _ rfl)) .nil) (.old 16 224 _ _ _ rfl rfl (.vars _ _ (zb rfl)) .nil) rfl (zq3 g c) ?_
          rintro H r ⟨rfl, rfl⟩ _ _
          refine ⟨rfl, .inl rfl, ?_⟩
          show ARet _ _ _
          exact zi rfl ⟨rfl, rfl⟩
    · rw [if_neg (fun k => hp k.2), decide_eq_false hp]
      show ABr _ _ _
      refine ⟨fun _ => ?_, fun h => absurd h (by decide)⟩
      show ARet _ _ _
      exact zi rfl ⟨rfl, rfl⟩
  · show ABr (!zz g []) _ _
    rw [if_neg (fun k => hm k.1), show zz g [] = false by simpa using hm]
    show ABr _ _ _
    refine ⟨fun _ => ?_, fun h => absurd h (by decide)⟩
    show ABr (!false) _ _
    show ABr _ _ _
    refine ⟨fun _ => ?_, fun h => absurd h (by decide)⟩
    show ARet _ _ _
    exact zi rfl ⟨rfl, rfl⟩
end Go.Abs
namespace Go.Abs
set_option maxRecDepth 8000
abbrev zko (g:Hp) (a:Int):Hd:={ headH g a with old:=true }
theorem zwB {g:Hp} {a:Int} (h:headE g a=0):PutOk g a (zko g a)∧zhV g a (zko g a)=zbW g a (zko g a).word:=by
 have hu:=(zcA h).1
 obtain ⟨p,s⟩:=zkd (x:=zko g a) h (by have:=(zhD h).1;unfold Hd.May at this ⊢;rw [if_pos hu] at this;rw [if_pos hu];exact this) hu rfl
 exact ⟨p,zhv s⟩
inductive SwStep (g:Hp) (c:Col):Hp→Col→Prop
 | idle (h:¬ (zz g []=true∧c.phase=6)):SwStep g c g c
 | old (hm:zz g []=true) (hp:c.phase=6) (hmet:c.met=true) (hf:zbU g c c.seek=2) (h0:headE g c.seek=0) (h:PutOk g c.seek (zko g c.seek)):SwStep g c (zbW g c.seek (zko g c.seek).word) { c with met:=false }
 | pass (hm:zz g []=true) (hp:c.phase=6) (hmet:c.met=true) (hf:zbU g c c.seek≠2):SwStep g c g { c with met:=false }
 | free (hm:zz g []=true) (hp:c.phase=6) (hmet:c.met=false) (hn:zac g.pages c.seek∈cellStarts g.pages) (hl:c.seek < zac g.pages c.seek) (hq:∀ u∈cellStarts g.pages,c.seek < u→zac g.pages c.seek≤u) (hf:zbU g c (zac g.pages c.seek)=1) (h0:headE g (zac g.pages c.seek)=0):SwStep g c (zhz g (zac g.pages c.seek)) { c with seek:=zac g.pages c.seek }
 | dirty (hm:zz g []=true) (hp:c.phase=6) (hmet:c.met=false) (hn:zac g.pages c.seek∈cellStarts g.pages) (hl:c.seek < zac g.pages c.seek) (hq:∀ u∈cellStarts g.pages,c.seek < u→zac g.pages c.seek≤u) (hf:zbU g c (zac g.pages c.seek)=2) (h0:headE g (zac g.pages c.seek)=0) (hc:zaY g (zac g.pages c.seek)=0):SwStep g c (zdU g (zbt g (zac g.pages c.seek)) true) { c with seek:=zac g.pages c.seek,met:=true }
 | stay (hm:zz g []=true) (hp:c.phase=6) (hmet:c.met=false) (hn:zac g.pages c.seek∈cellStarts g.pages) (hl:c.seek < zac g.pages c.seek) (hq:∀ u∈cellStarts g.pages,c.seek < u→zac g.pages c.seek≤u) (hf:zbU g c (zac g.pages c.seek)=0):SwStep g c g { c with seek:=zac g.pages c.seek }
 | done (hm:zz g []=true) (hp:c.phase=6) (hmet:c.met=false) (hn:∀ u∈cellStarts g.pages,u≤c.seek):SwStep g c g ⟨0,c.epoch,c.major,[],false,0,0,0,0,false⟩
theorem zpS (l : List Page) (a : Int) : (ziI l a = false ∧ ∀ u ∈ cellStarts l, u ≤ a) ∨ (ziI l a = true ∧ a < zac l a ∧ zac l a ∈ cellStarts l ∧ ∀ u ∈ cellStarts l, a < u → zac l a ≤ u) := by
  unfold ziI
  cases h : (cellStarts l).find? fun s => decide (a < s) with
  | none =>
    refine .inl ⟨rfl, fun u hu => ?_⟩
    have := List.find?_eq_none.1 h u hu
    simpa using this
  | some x =>
    refine .inr ⟨rfl, ?_⟩
    have hx := List.find?_some h
    have hm := List.mem_of_find?_eq_some h
    have hx : a < x := of_decide_eq_true hx
    rcases znK l a with ⟨_, h2⟩ | h2
    · have := h2 x hm; omega
    · exact h2
theorem zpX (g : Hp) (c : Col) : SwStep g c (zfE g c).1 (zfE g c).2 := by
  unfold zfE
  by_cases hm : zz g [] = true ∧ c.phase = 6
  · rw [if_pos hm]
    obtain ⟨hm, hp⟩ := hm
    cases hmet : c.met with
    | true =>
      rw [if_pos rfl]
      unfold zvL
      by_cases hf : zbU g c c.seek = 2
      · rw [if_pos hf]
        have h0 : headE g c.seek = 0 := by
          rcases zfp g c c.seek with h | ⟨h, _⟩ | ⟨_, h⟩
          · omega
          · omega
          · exact h
        obtain ⟨p, e⟩ := zwB h0
        show SwStep g c (zhV g c.seek (zko g c.seek)) _
        rw [e]
        exact .old hm hp hmet hf h0 p
      · rw [if_neg hf]
        exact .pass hm hp hmet hf
    | false =>
      rw [if_neg (by decide)]
      rcases zpS g.pages c.seek with ⟨h1, h2⟩ | ⟨h1, h2, h3, h4⟩
      · rw [h1, if_neg (by decide)]
        exact .done hm hp hmet h2
      · rw [h1, if_pos rfl]
        unfold znG
        rcases zfp g c (zac g.pages c.seek) with h | ⟨h, h0⟩ | ⟨h, h0⟩
        · rw [if_neg (by omega), if_neg (by omega)]
          exact .stay hm hp hmet h3 h2 h4 h
        · rw [if_pos h]
          exact .free hm hp hmet h3 h2 h4 h h0
        · rw [if_neg (by omega), if_pos h]
          have hc : zaY g (zac g.pages c.seek) = 0 := by
            obtain ⟨z1, z2, z3, z4⟩ := zbO h0
            exact zfK hm ⟨z2, by omega⟩
          show SwStep g c (zaU g (zac g.pages c.seek)) _
          rw [zkw hc]
          exact .dirty hm hp hmet h3 h2 h4 h h0 hc
  · rw [if_neg hm]
    exact .idle hm
theorem SwStep.work {g k:Hp} {c d:Col} (s:SwStep g c k d):d.work=c.work∨d.work=[]:=by
 cases s <;> first | exact .inl rfl | exact .inr rfl
theorem SwStep.col {g k:Hp} {c d:Col} (s:SwStep g c k d):d.epoch=c.epoch∧d.major=c.major:=by
 cases s <;> exact ⟨rfl,rfl⟩
end Go.Abs
namespace Go.Abs
open Go.Proofs Go.Proofs.YtlankjlnnimdoaaGreatDoor
set_option maxRecDepth 8000
end Go.Abs
namespace Go.Abs
open Go.Proofs Go.Proofs.YtlankjlnnimdoaaGreatDoor
set_option maxRecDepth 8000
end Go.Abs
namespace Go.Abs
open Go.Proofs Go.Proofs.YtlankjlnnimdoaaGreatDoor
set_option maxRecDepth 8000
end Go.Abs
namespace Go.Abs
open Go.Proofs Go.Proofs.YtlankjlnnimdoaaGreatDoor
set_option maxRecDepth 8000
end Go.Abs
namespace Go.Abs
open Go.Proofs Go.Proofs.YtlankjlnnimdoaaGreatDoor
set_option maxRecDepth 8000
end Go.Abs
namespace Go.Abs
open Go.Proofs Go.Proofs.YtlankjlnnimdoaaGreatDoor
set_option maxRecDepth 8000
end Go.Abs
namespace Go.Abs
open Go.Proofs Go.Proofs.YtlankjlnnimdoaaGreatDoor
set_option maxRecDepth 8000
theorem Freed.head {g k:Hp} {a:Int} {cs:List Lists} (f:Freed g k a cs) (u:Int):(headE k u=0↔headE g u=0∧u≠a)∧(headE k u=0→headH k u=headH g u):=by
 have h1:headE k u=0↔headE g u=0∧u≠a:=by
  rw [← zbd,← zbd,f.used,List.mem_filter,decide_eq_true_eq]
 refine ⟨h1,fun h=>?_⟩
 obtain ⟨h2,h3⟩:=h1.1 h
 have hr:=(zV h2).2.1
 have hp:=(zcA h2).2
 have:=f.word u h3 hr 0 (Int.le_refl _) (by omega)
 rw [Int.add_zero] at this
 rw [zaw h,zaw h2,this]
end Go.Abs
namespace Go.Abs
open Go.Proofs Go.Proofs.YtlankjlnnimdoaaGreatDoor
set_option maxRecDepth 8000
end Go.Abs
namespace Go.Abs
open Go.Proofs Go.Proofs.YtlankjlnnimdoaaGreatDoor
set_option maxRecDepth 8000
end Go.Abs
namespace Go.Abs
set_option maxRecDepth 8000
def zw2 (k:Hp) (a:Int):Nat:=((cellStarts k.pages).filter fun s=>decide (a < s)).length
end Go.Abs
namespace Go.Abs
set_option maxRecDepth 8000
def zbp (c:Col):Bool:=decide (0≤c.phase∧c.phase≤6∧(if c.phase=0 then 0 else 1)≤c.epoch∧c.epoch≤1048576∧(c.work.length:Int)≤4)
def Col.none:Col:=⟨0,0,false,[],false,0,0,0,0,false⟩
def zaz (c:Col):Int:=if zbp c=true then (if c.phase=0 then (if c.epoch=1048576 then 2 else 0) else 4) else 1
def zbJ (c:Col) (major:Bool):Col:=if zaz c=0 then ⟨1,c.epoch+1,major,[],false,0,0,0,0,false⟩ else Col.none
def zol (c:Col):Col:=if c.phase=3 then { c with phase:=if c.major=true then 5 else 4,at_:=0,field_:=0,seek:=0,card:=0,met:=false } else { c with phase:=c.phase+1 }
def zlC (c:Col) (l:List Thread):Col:=if zjc c l=true then zol c else c
def zcr (g:Hp) (c:Col) (l:List Thread):Hp × Col:=
 if zbp c=true∧c.phase≠0 then
  (if c.phase=4 then ziK g c else if c.phase=5 then zfw g c else if c.phase=6 then zfE g c else (g,zlC c l))
 else (g,c)
inductive CStep (g:Hp) (c:Col) (l:List Thread):Hp→Col→Prop
 | idle (h:¬ (zbp c=true∧c.phase≠0)):CStep g c l g c
 | stay (hm:zbp c=true) (h1:1≤c.phase) (h3:c.phase≤3) (ha:zjc c l=false):CStep g c l g c
 | next (hm:zbp c=true) (h1:1≤c.phase) (h3:c.phase≤3) (ha:zjc c l=true):CStep g c l g (zol c)
 | scan (hm:zbp c=true) (hp:c.phase=4) {k:Hp} {d:Col} (s:SStep g c k d):CStep g c l k d
 | trace (hm:zbp c=true) (hp:c.phase=5) {k:Hp} {d:Col} (s:TStep g c k d):CStep g c l k d
 | sweep (hm:zbp c=true) (hp:c.phase=6) {k:Hp} {d:Col} (s:SwStep g c k d):CStep g c l k d
theorem ziZ {c:Col} (h:zbp c=true):0≤c.phase∧c.phase≤6∧0≤c.epoch∧(c.phase≠0→1≤c.epoch)∧c.epoch≤1048576∧c.work.length≤4:=by
 obtain ⟨h1,h2,h3,h4,h5⟩:=of_decide_eq_true h
 refine ⟨h1,h2,?_,fun hp=>?_,h4,by omega⟩
 ·by_cases hp:c.phase=0
  ·rw [if_pos hp] at h3;omega
  ·rw [if_neg hp] at h3;omega
 ·rw [if_neg hp] at h3;omega
theorem zrq {c:Col} (h1:0≤c.phase) (h2:c.phase≤6) (h3:0≤c.epoch) (h4:c.phase≠0→1≤c.epoch) (h5:c.epoch≤1048576) (h6:c.work.length≤4):zbp c=true:=by
 refine decide_eq_true ⟨h1,h2,?_,h5,by omega⟩
 by_cases hp:c.phase=0
 ·rw [if_pos hp];omega
 ·rw [if_neg hp];exact h4 hp
theorem zhn (g:Hp) (c:Col) (l:List Thread):CStep g c l (zcr g c l).1 (zcr g c l).2:=by
 unfold zcr
 by_cases h:zbp c=true∧c.phase≠0
 ·rw [if_pos h]
  obtain ⟨hm,h0⟩:=h
  obtain ⟨m1,m2,_⟩:=ziZ hm
  by_cases h4:c.phase=4
  ·rw [if_pos h4];exact .scan hm h4 (zs3 g c)
  ·rw [if_neg h4]
   by_cases h5:c.phase=5
   ·rw [if_pos h5];exact .trace hm h5 (zqa g c)
   ·rw [if_neg h5]
    by_cases h6:c.phase=6
    ·rw [if_pos h6];exact .sweep hm h6 (zpX g c)
    ·rw [if_neg h6]
     show CStep g c l g (zlC c l)
     unfold zlC
     cases ha:zjc c l with
     | true=>rw [if_pos rfl];exact .next hm (by omega) (by omega) ha
     | false=>rw [if_neg (by decide)];exact .stay hm (by omega) (by omega) ha
 ·rw [if_neg h];exact .idle h
theorem zd7 (g:Hp) (c:Col) (v:Int) (h:c.work.length≤4):(zae g c v).work.length≤4:=by
 by_cases e:atK g c v=1
 ·rw [zrl e]
  split
  ·show (c.work ++ [v]).length≤_
   rw [List.length_append,List.length_singleton]
   omega
  ·exact h
 ·rw [zs4 e];exact h
theorem zl2 (g:Hp) (c:Col) (v:Int) (h:c.work.length≤4):(zc9 g c v).2.work.length≤4:=by
 rcases zfO g c v with ⟨_,e⟩ | ⟨_,e⟩ <;> rw [e]
 ·exact zd7 g c v h
 ·exact h
theorem SStep.col {g k:Hp} {c d:Col} (s:SStep g c k d):d.epoch=c.epoch∧d.major=c.major∧(d.phase=c.phase∨c.phase=4∧d.phase=5)∧(c.work.length≤4→d.work.length≤4):=by
 cases s
 case last v hv=>obtain ⟨e1,e2,e3,_⟩:=zrH g c v;exact ⟨e2,e3,.inl e1,zl2 g c v⟩
 case more v hv=>obtain ⟨e1,e2,e3,_⟩:=zrH g c v;exact ⟨e2,e3,.inl e1,zl2 g c v⟩
 case fin=>exact ⟨rfl,rfl,.inr ⟨by assumption,rfl⟩,id⟩
 all_goals exact ⟨rfl,rfl,.inl rfl,id⟩
theorem TStep.work4 {g k:Hp} {c d:Col} (h:TStep g c k d) (h1:c.work.length≤4):d.work.length≤4:=by
 cases h
 case last v hv=>exact zd7 g c v h1
 case more v hv=>exact zd7 g c v h1
 case pop r x hw=>
  rw [hw,List.length_append] at h1
  show r.length≤_
  omega
 all_goals exact h1
theorem SwStep.ph {g k:Hp} {c d:Col} (s:SwStep g c k d):d.phase=c.phase∨c.phase=6∧d.phase=0:=by
 cases s <;> first | exact .inl rfl | exact .inr ⟨by assumption,rfl⟩
theorem CStep.col {g k:Hp} {c d:Col} {l:List Thread} (s:CStep g c l k d) :
  d.epoch=c.epoch∧d.major=c.major∧(d.phase=c.phase∧(c.phase=0∨zbp c=false∨4≤c.phase∨zjc c l=false) ∨
   (1≤c.phase∧c.phase≤2∧zjc c l=true∧d.phase=c.phase+1)∨(c.phase=3∧zjc c l=true∧d.phase=if c.major=true then 5 else 4)∨(4≤c.phase∧c.phase≤5∧d.phase=c.phase+1)∨(c.phase=6∧d.phase=0))∧(c.work.length≤4→d.work.length≤4):=by
 cases s
 case idle h=>
  refine ⟨rfl,rfl,.inl ⟨rfl,?_⟩,id⟩
  by_cases h0:c.phase=0
  ·exact .inl h0
  ·exact .inr (.inl (by simpa using fun k=>h ⟨k,h0⟩))
 case stay ha=>exact ⟨rfl,rfl,.inl ⟨rfl,.inr (.inr (.inr (by assumption)))⟩,id⟩
 case next hm h1 h3 ha=>
  unfold zol
  by_cases hp:c.phase=3
  ·rw [if_pos hp]
   exact ⟨rfl,rfl,.inr (.inr (.inl ⟨hp,ha,rfl⟩)),id⟩
  ·rw [if_neg hp]
   exact ⟨rfl,rfl,.inr (.inl ⟨h1,by omega,ha,rfl⟩),id⟩
 case scan hm hp s=>
  obtain ⟨e1,e2,e3,e4⟩:=s.col
  refine ⟨e1,e2,?_,e4⟩
  rcases e3 with e | ⟨_,e⟩
  ·exact .inl ⟨e,.inr (.inr (.inl (by omega)))⟩
  ·exact .inr (.inr (.inr (.inl ⟨by omega,by omega,by omega⟩)))
 case trace hm hp s=>
  obtain ⟨e1,e2,e3⟩:=s.col
  refine ⟨e1,e2,?_,s.work4⟩
  rcases e3 with e | ⟨_,e⟩
  ·exact .inl ⟨e,.inr (.inr (.inl (by omega)))⟩
  ·exact .inr (.inr (.inr (.inl ⟨by omega,by omega,by omega⟩)))
 case sweep hm hp s=>
  obtain ⟨e1,e2⟩:=s.col
  refine ⟨e1,e2,?_,fun h=>?_⟩
  ·rcases s.ph with e | e
   ·exact .inl ⟨e,.inr (.inr (.inl (by omega)))⟩
   ·exact .inr (.inr (.inr (.inr e)))
  ·rcases s.work with e | e <;> rw [e]
   ·exact h
   ·exact Nat.zero_le _
end Go.Abs
namespace Go.Abs
set_option maxRecDepth 8000
structure Wd where
 h:Hp
 c:Col
 t:List Thread
 log:List Res
def Wd.cells (w:Wd):List DV:=w.h.enc ++ (w.c.enc ++ [.sl .thread w.t,.sl .res w.log])
abbrev Wd.tv (w:Wd):TV:=.dagg w.cells
abbrev wdO (w:Wd) (bt bl:Nat):List CV:=(w.h.enc ++ w.c.enc).map CV.d ++ [.own bt,.own bl]
def Wd.zero:Wd:=⟨Hp.zero,⟨0,0,false,[],false,0,0,0,0,false⟩,[],[]⟩
def zU (w:Wd):List Lists:=w.t.map (·.cache)
def zaO (w:Wd):Bool:=decide (w.t.length≤4) && (!(w.t.any fun t=>!decide t.mayT) && (zbp w.c && zo w.h (zU w)))
def ze3 (w:Wd) (n:Int):Bool:=decide (0≤n∧n < (w.t.length:Int))
abbrev thW (w:Wd) (n:Int):Thread:=w.t.getD n.toNat default
def zou (w:Wd) (n:Int) (m:Mu):List Res:=if m.told=true then w.log ++ [{ m.r with thread:=n }] else w.log
def zeb (w:Wd) (n:Int):Bool:=!(thW w n).live || (!zaK w.c (thW w n) && decide ((thW w n).ops.length=0))
def stepW (w:Wd) (n:Int):Wd:=
 if ze3 w n=false then w else if zeb w n=true then w
 else if zaK w.c (thW w n)=true then ⟨ansG w.h w.c (thW w n),ansC w.h w.c (thW w n),w.t.set n.toNat (ansT w.c (thW w n)),w.log⟩
 else ⟨(mutS w.h w.c (thW w n)).h,(mutS w.h w.c (thW w n)).c,w.t.set n.toNat (mutS w.h w.c (thW w n)).t,zou w n (mutS w.h w.c (thW w n))⟩
def zb4 (w:Wd) (n:Int):Int:=if ze3 w n=false then 3 else if zeb w n=true then 3 else 0
def colW (w:Wd):Wd:={ w with h:=(zcr w.h w.c w.t).1,c:=(zcr w.h w.c w.t).2 }
def startW (w:Wd) (m:Bool):Wd:=if zaz w.c=0 then { w with c:=zbJ w.c m } else w
def zd3 (w:Wd) (n:Int):Bool:=(thW w n).live || decide ((thW w n).ops.length=0)
def beginW (w:Wd) (n:Int):Wd:=if ze3 w n=false then w else if zd3 w n=true then w else { w with t:=w.t.set n.toNat (beginT w.c (thW w n) w.t) }
def beginWE (w:Wd) (n:Int):Int:=if ze3 w n=false then 3 else if zd3 w n=true then 4 else 0
def doW1 (w:Wd) (e:Pair):Wd:=
 if e.fst=0 then stepW w e.snd else if e.fst=1 then colW w else if e.fst=2 then startW w false else if e.fst=3 then startW w true else if e.fst=4 then beginW w e.snd else w
def doE1 (w:Wd) (e:Pair):Int:=
 if e.fst=0 then zb4 w e.snd else if e.fst=1 then 0 else if e.fst=2 then zaz w.c else if e.fst=3 then zaz w.c else if e.fst=4 then beginWE w e.snd else 1
def doW (w:Wd) (e:Pair):Wd:=if zaO w=true then doW1 w e else w
def doWE (w:Wd) (e:Pair):Int:=if zaO w=true then doE1 w e else 1
def madeW (n:Int) (l:List (List Op)):Wd:=if newE n≠0 then Wd.zero else if l.any (fun x=>decide (4 < l.length∨200 < x.length)) then Wd.zero else ⟨newH n,Wd.zero.c,l.map fun o=>{ Thread.zero with ops:=o },[]⟩
def zcT (n:Int) (l:List (List Op)):Int:=if newE n≠0 then newE n else if l.any (fun x=>decide (4 < l.length∨200 < x.length)) then 2 else 0
structure Wd.Fit (w:Wd):Prop where
 small:w.h.small
 work:w.c.work.length < most
 len:w.t.length≤4
 th:∀ t∈w.t,t.ok∧t.cache.ok
 flat:(zm (zdV w.h (zU w))).length≤most
 log:w.log.length < most
def zbz (w:Wd) (m:Bool):Wd:=doW w ⟨if m=true then 3 else 2,0⟩
def runW (w:Wd) (l:List Pair):Wd:=l.foldl doW w
theorem zh0 (w:Wd) {l:List Pair} {i:Nat} (h:i < l.length):runW w (l.take (i+1))=doW (runW w (l.take i)) (l.getD i default):=by
 unfold runW
 rw [List.take_add_one,List.getElem?_eq_getElem h,List.getD_eq_getElem?_getD,List.getElem?_eq_getElem h,List.foldl_append]
 rfl
end Go.Abs
namespace Go.Abs
set_option maxRecDepth 8000
def base (n:Int):Int:=n * n / 4+4 * n+111
end Go.Abs
namespace Go.Abs
open Go.Proofs Go.Proofs.YtlankjlnnimdoaaGreatDoor
set_option maxRecDepth 8000
theorem Marks.light {g k:Hp} (h:Marks g k) (hl:g.light):k.light:=by unfold Hp.light;rw [h.free];exact hl
theorem Marks.small {g k:Hp} (h:Marks g k) (hs:g.small):k.small:=by unfold Hp.small;rw [h.free,h.pages,h.cards,h.len];exact hs
theorem zq6 (w:List Int) (a:Int) (hw:zbg w=true) (ha:16≤a∧a < 16+w.length):Spec X 236 [] [.c (.d (.sl .int w)),.int a,.int 1] (Ret [] (.tup [.c (.d (.sl .int ((w.drop (a - 16).toNat).take 1))),.int 0])):=by
 refine zd X_ok Tryz.f236 (by kernel_rfl) (by kernel_rfl) (by kernel_rfl) fun hb hH=>⟨rfl,?_⟩
 show ACall ..
 refine za (zeh w) rfl ?_
 rw [hw]
 show ABr (!true) _ _
 show ABr ..
 refine ⟨fun h=>absurd h (by decide),fun _=>?_⟩
 show ABr ..
 refine ⟨fun h=>absurd h (by decide),fun _=>?_⟩
 have h1:w.length≤1024:=by have:=of_decide_eq_true hw;omega
 have e1:IntKind.i64.wrap (a - 16)=a - 16:=zB (by omega) (by omega)
 have e2:IntKind.i64.wrap ((w.length:Int) - (a - 16))=w.length - (a - 16):=zB (by omega) (by omega)
 show ABr (bif decide ((1:Int) > 0) then (bif (bif decide (a < 16) then true else decide (IntKind.i64.wrap (a - 16)≥(w.length:Int))) then true else decide ((1:Int) > IntKind.i64.wrap ((w.length:Int) - IntKind.i64.wrap (a - 16)))) else false) _ _
 rw [e1,e2]
 refine ⟨fun h=>?_,fun _=>?_⟩
 ·exfalso
  have g1:decide (a < 16)=false:=decide_eq_false (by omega)
  have g2:decide (a - 16≥(w.length:Int))=false:=decide_eq_false (by omega)
  have g3:decide ((1:Int) > (w.length:Int) - (a - 16))=false:=decide_eq_false (by omega)
  rw [g1,g2,g3] at h
  exact absurd h (by decide)
 ·show ABr ..
  refine ⟨fun h=>absurd h (by decide),fun _=>?_⟩
  show AOb ((0:Int)≤IntKind.i64.wrap (a - 16)∧IntKind.i64.wrap (a - 16)≤(w.length:Int)) _
  rw [e1]
  refine ⟨by omega,?_⟩
  have hdl:(w.drop (a - 16).toNat).length=w.length - (a - 16).toNat:=List.length_drop
  show AOb ((0:Int)≤1∧(1:Int)≤1∧(1:Int)≤(((w.drop (a - 16).toNat).length:Nat):Int)) _
  refine ⟨by omega,?_⟩
  show ARet ..
  exact zi rfl ⟨rfl,rfl⟩
theorem zfR (w:List Int) (a:Int) (hw:zbg w=true) (ha:16≤a∧a < 16+w.length):Spec X 194 [] [.c (.d (.sl .int w)),.int a] (Ret [] (.tup [.int (at0 w (a - 16).toNat),.int 0])):=by
 refine zd X_ok Tryz.f194 (by kernel_rfl) (by kernel_rfl) (by kernel_rfl) fun hb hH=>⟨rfl,?_⟩
 show ACall ..
 refine za (zq6 w a hw ha) rfl ?_
 have hdl:((w.drop (a - 16).toNat).take 1).length=1:=by rw [List.length_take,List.length_drop];omega
 show ABr ..
 refine ⟨fun h=>absurd h (by decide),fun _=>?_⟩
 show AOb ((0:Int)≤0∧(0:Int) < ((((w.drop (a - 16).toNat).take 1).length:Nat):Int)) _
 refine ⟨by omega,?_⟩
 have hv:((w.drop (a - 16).toNat).take 1).getD 0 default=at0 w (a - 16).toNat:=by
  unfold at0
  simp [List.getD_eq_getElem?_getD]
 show ARet ..
 exact ⟨[],[],[.int (at0 w (a - 16).toNat),.int 0],.cons _ _ _ _ (.int_eq hv) (.cons _ _ _ _ .same .nil),.nil,rfl,rfl,rfl⟩
end Go.Abs
namespace Go.Abs
open Go.Proofs Go.Proofs.YtlankjlnnimdoaaGreatDoor
set_option maxRecDepth 8000
def wkV (g:Hp) (c:Col):List CV:=(g.enc ++ c.enc).map .d
theorem zsw (g:Hp) (c:Col) (hs:g.small) (hw:c.work.length≤most):Spec X 205 [] [g.tv,c.tv] (Ret [(0,.vars (wkV g c))] (.c (.ptr 0 0 0))):=by
 refine zd X_ok Tryz.f205 (by kernel_rfl) (by kernel_rfl) (by kernel_rfl) fun hb hH=>⟨rfl,?_⟩
 obtain ⟨h1,h2,h3,h4,h5,h6⟩:=hs
 show ADCall ..
 refine .mk _ _ (ze g.w h1) rfl ?_
 show ADCall ..
 refine .mk _ _ (zW g.pages h2) rfl ?_
 show ADCall ..
 refine .mk _ _ (zaf g.cards h3) rfl ?_
 show ∃ n,_
 refine ⟨4,?_⟩
 show ALoop ..
 refine .next ?_
 show ABr ..
 refine ⟨fun _=>?_,fun h=>absurd h (by decide)⟩
 show AOb ..
 refine ⟨by decide,?_⟩
 show ACall ..
 refine za (ze g.free.l0 h4) rfl ?_
 show AOb ..
 refine ⟨by decide,?_⟩
 show ALoop ..
 refine .next ?_
 show ABr ..
 refine ⟨fun _=>?_,fun h=>absurd h (by decide)⟩
 show AOb ..
 refine ⟨by decide,?_⟩
 show ACall ..
 refine za (ze g.free.l1 h5) rfl ?_
 show AOb ..
 refine ⟨by decide,?_⟩
 show ALoop ..
 refine .next ?_
 show ABr ..
 refine ⟨fun _=>?_,fun h=>absurd h (by decide)⟩
 show AOb ..
 refine ⟨by decide,?_⟩
 show ACall ..
 refine za (ze g.free.l2 h6) rfl ?_
 show AOb ..
 refine ⟨by decide,?_⟩
 show ALoop ..
 refine .next ?_
 show ABr ..
 refine ⟨fun h=>absurd h (by decide),fun _=>?_⟩
 show ACall ..
 refine za (ze c.work hw) rfl ?_
 show ARet ..
 exact ⟨[(_,0)],[(0,.vars (wkV g c))],[.c (.ptr 0 0 0)],.cons _ _ _ _ (.c _ _ (.ptr1 _ _ _ _)) .nil,.old 0 _ _ _ _ rfl rfl (.vars _ _ (zb rfl)) .nil,rfl,rfl,rfl⟩
theorem zcZ (g:Hp) (c:Col) (a:Int):Spec X 206 [(16,.vars (wkV g c))] [.c (.ptr 16 0 0),.int a] (fun H r=>H=[(16,.vars (wkV g { c with at_:=a,field_:=0 }))]∧r = .tup []):=by
 refine zd X_ok Tryz.f206 (by kernel_rfl) (by kernel_rfl) (by kernel_rfl) fun hb hH=>⟨rfl,?_⟩
 show ARet ..
 exact ⟨[(16,16)],[(16,.vars (wkV g { c with at_:=a,field_:=0 }))],[],.nil,.old 16 16 _ _ _ rfl rfl (.vars _ _ (zb rfl)) .nil,rfl,rfl,rfl⟩
theorem zpA (g:Hp) (c:Col) (a:Int) (hl:g.light):Spec X 243 [] [.c (.d (.rp (g.enc ++ c.enc))),.int a] (Ret [] (.bo (zgz g a))):=by
 refine zd X_ok Tryz.f243 (by kernel_rfl) (by kernel_rfl) (by kernel_rfl) fun hb hH=>⟨rfl,?_⟩
 show ACall ..
 refine za (zav g a hl) rfl ?_
 show ARet ..
 refine zw (x:=bif decide (headE g a=0) then !(headH g a).old else false) ?_ ⟨rfl,rfl⟩
 unfold zgz
 cases decide (headE g a=0) <;> rfl
theorem zqm (g:Hp) (c:Col):Spec X 245 [] [.c (.d (.rp (g.enc ++ c.enc)))] (Ret [] (.int (IntKind.i64.wrap (16+IntKind.i64.wrap (8 * c.card))))):=by
 refine zd X_ok Tryz.f245 (by kernel_rfl) (by kernel_rfl) (by kernel_rfl) fun hb hH=>⟨rfl,?_⟩
 show ARet ..
 exact zi rfl ⟨rfl,rfl⟩
theorem ztU {g:Hp} (hm:zz g []=true) {n:Int} (h0:0≤n) (hc:n < (g.cards.length:Int)):IntKind.i64.wrap (n+1)=n+1:=by
 obtain ⟨_,_,_,h4,_,h64⟩:=zr (zM hm)
 exact zB (by omega) (by omega)
theorem zut {g:Hp} (hm:zz g []=true) {n:Int} (h0:0≤n) (hc:n < (g.cards.length:Int)):zb5 g n=zdU g n false:=by
 apply zqQ
 unfold zec
 rw [hm,decide_eq_true ⟨h0,hc⟩]
 rfl
theorem zpV (g : Hp) (c : Col) (hl : g.light) (hm : zz g [] = true) (h0 : 0 ≤ c.card) (hc : c.card < (g.cards.length : Int)) : Spec X 207 [(16, .vars (wkV g c))] [.c (.ptr 16 0 0)] (fun H r => H = [(16, .vars (wkV (zoz g c).1 (zoz g c).2))] ∧ r = .tup []) := by
  refine zd X_ok Tryz.f207 (by kernel_rfl) (by kernel_rfl) (by kernel_rfl) fun hb hH => ⟨rfl, ?_⟩
  show AOb ((0 : Int) ≤ c.card ∧ c.card < (g.cards.length : Int)) _
  refine ⟨⟨h0, hc⟩, ?_⟩
  unfold zoz
  show ABr (!g.cards.getD c.card.toNat false) _ _
  cases hd : g.cards.getD c.card.toNat false with
  | false =>
    rw [if_neg (by decide)]
    show ABr _ _ _
    refine ⟨fun _ => ?_, fun h => absurd h (by decide)⟩
    have wc := ztU hm h0 hc
    show ARet _ _ _
    exact ⟨[(16, 16)], [(16, .vars (wkV g { c with card := c.card + 1 }))], [], .nil, .old 16 16 _ _ _ rfl rfl (.vars _ _ (by repeat' first | exact .nil | refine .cons _ _ _ _ ?_ ?_ | exact .d _ | exact .int_eq wc)) .nil, rfl, rfl, rfl⟩
  | true =>
    rw [if_pos rfl, ← zut hm h0 hc]
    show ABr _ _ _
    refine ⟨fun h => absurd h (by decide), fun _ => ?_⟩
    show ADCall _ _ _ _ _ _
    refine .mk _ _ (zqG g c.card hl) rfl ?_
    show ACall _ _ _ _ _ _
    refine .hand [(16, 16)] [(16, .vars (wkV (zb5 g c.card) { c with seek := 1, met := false }))] [.c (.ptr 16 0 0), .int 0] _ (.cons _ _ _ _ (.c _ _ (.ptr _ _ _ _ rfl)) (.cons _ _ _ _ .same .nil)) (.old 16 16 _ _ _ rfl rfl (.vars _ _ (zb rfl)) .nil) rfl (zcZ (zb5 g c.card) { c with seek := 1, met := false } 0) ?_
    rintro H r ⟨rfl, rfl⟩ _ _
    refine ⟨rfl, .inl rfl, ?_⟩
    show ARet _ _ _
    exact ⟨[(16, 16)], [(16, .vars (wkV (zb5 g c.card) { c with seek := 1, met := false, at_ := 0, field_ := 0 }))], [], .nil, .old 16 16 _ _ _ rfl rfl (.vars _ _ (by repeat' first | exact .nil | refine .cons _ _ _ _ ?_ ?_ | exact .d _ | exact .int_eq rfl)) .nil, rfl, rfl, rfl⟩
set_option maxRecDepth 60000 in
set_option maxHeartbeats 2000000 in
theorem znU (g : Hp) (c : Col) (hl : g.light) (hs : g.small) (hk : c.work.length < most) : Spec X 208 [(16, .vars (wkV g c))] [.c (.ptr 16 0 0)] (fun H r => H = [(16, .vars (wkV (zoT g c).1 (zoT g c).2))] ∧ r = .tup []) := by
  refine zd X_ok Tryz.f208 (by kernel_rfl) (by kernel_rfl) (by kernel_rfl) fun hb hH => ⟨rfl, ?_⟩
  show ADCall _ _ _ _ _ _
  refine .mk _ _ (zav g c.at_ hl) rfl ?_
  unfold zoT
  by_cases hE : headE g c.at_ = 0
  · show ABr (!decide (headE g c.at_ = 0)) _ _
    rw [decide_eq_true hE]
    show ABr _ _ _
    refine ⟨fun h => absurd h (by decide), fun _ => ?_⟩
    by_cases hf : c.field_ < 0
    · show ABr (decide (c.field_ < 0)) _ _
      rw [decide_eq_true hf, if_pos (.inr (.inl hf))]
      show ABr _ _ _
      refine ⟨fun _ => ?_, fun h => absurd h (by decide)⟩
      show ABr _ _ _
      refine ⟨fun _ => ?_, fun h => absurd h (by decide)⟩
      show ACall _ _ _ _ _ _
      refine .hand [(16, 16)] [(16, .vars (wkV g c))] [.c (.ptr 16 0 0), .int 0] _ (.cons _ _ _ _ (.c _ _ (.ptr _ _ _ _ rfl)) (.cons _ _ _ _ .same .nil)) (.old 16 16 _ _ _ rfl rfl (.vars _ _ (zb rfl)) .nil) rfl (zcZ g c 0) ?_
      rintro H r ⟨rfl, rfl⟩ _ _
      refine ⟨rfl, .inl rfl, ?_⟩
      show ARet _ _ _
      exact ⟨[(16, 16)], [(16, .vars (wkV g { c with at_ := 0, field_ := 0 }))], [], .nil, .old 16 16 _ _ _ rfl rfl (.vars _ _ (by repeat' first | exact .nil | refine .cons _ _ _ _ ?_ ?_ | exact .d _ | exact .int_eq rfl)) .nil, rfl, rfl, rfl⟩
    · show ABr (decide (c.field_ < 0)) _ _
      rw [decide_eq_false hf]
      show ABr _ _ _
      refine ⟨fun h => absurd h (by decide), fun _ => ?_⟩
      by_cases hn : (headH g c.at_).n ≤ c.field_
      · show ABr (decide (c.field_ ≥ (headH g c.at_).n)) _ _
        rw [decide_eq_true (show c.field_ ≥ (headH g c.at_).n from hn), if_pos (.inr (.inr hn))]
        show ABr _ _ _
        refine ⟨fun _ => ?_, fun h => absurd h (by decide)⟩
        show ACall _ _ _ _ _ _
        refine .hand [(16, 16)] [(16, .vars (wkV g c))] [.c (.ptr 16 0 0), .int 0] _ (.cons _ _ _ _ (.c _ _ (.ptr _ _ _ _ rfl)) (.cons _ _ _ _ .same .nil)) (.old 16 16 _ _ _ rfl rfl (.vars _ _ (zb rfl)) .nil) rfl (zcZ g c 0) ?_
        rintro H r ⟨rfl, rfl⟩ _ _
        refine ⟨rfl, .inl rfl, ?_⟩
        show ARet _ _ _
        exact ⟨[(16, 16)], [(16, .vars (wkV g { c with at_ := 0, field_ := 0 }))], [], .nil, .old 16 16 _ _ _ rfl rfl (.vars _ _ (by repeat' first | exact .nil | refine .cons _ _ _ _ ?_ ?_ | exact .d _ | exact .int_eq rfl)) .nil, rfl, rfl, rfl⟩
      · show ABr (decide (c.field_ ≥ (headH g c.at_).n)) _ _
        rw [decide_eq_false (show ¬ c.field_ ≥ (headH g c.at_).n from hn), if_neg (fun k => by rcases k with k | k | k; exact k hE; exact hf k; exact hn k)]
        show ABr _ _ _
        refine ⟨fun h => absurd h (by decide), fun _ => ?_⟩
        have h0 : 0 ≤ c.field_ := by omega
        obtain ⟨hm, hr, _⟩ := zV hE
        obtain ⟨hmw, _, hlen, _, _, h64⟩ := zr (zM hm)
        obtain ⟨⟨a1, a2⟩, _⟩ := ziC (f := c.field_ + 1) hE (by omega) (by omega)
        have ha16 := (zaQ (h := g) hr).1
        have w1 : IntKind.i64.wrap (c.at_ + 1) = c.at_ + 1 := zB (by omega) (by omega)
        have w2 : IntKind.i64.wrap (c.at_ + 1 + c.field_) = c.at_ + 1 + c.field_ := zB (by omega) (by omega)
        have w3 : IntKind.i64.wrap (c.field_ + 1) = c.field_ + 1 := zB (by omega) (by omega)
        have hv : at0 g.w (IntKind.i64.wrap (IntKind.i64.wrap (c.at_ + 1) + c.field_) - 16).toNat = wordOf g (c.at_ + 1 + c.field_) := by
          rw [w1, w2]
          unfold wordOf zh
          rw [if_pos ⟨hmw, by omega, by omega⟩]
        generalize wordOf g (c.at_ + 1 + c.field_) = v at hv
        show ADCall _ _ _ _ _ _
        refine .mk _ _ (zfR g.w (IntKind.i64.wrap (IntKind.i64.wrap (c.at_ + 1) + c.field_)) hmw (by rw [w1, w2]; omega)) rfl ?_
        rw [hv]
        show ACall _ _ _ _ _ _
        refine za (zpA g c v hl) rfl ?_
        cases hy : zgz g v with
        | true =>
          have e1 : zc9 g c v = (zaa g c v, { zae g c v with met := true }) := by unfold zc9; rw [if_pos hy]
          rw [e1]
          show ABr _ _ _
          refine ⟨fun _ => ?_, fun h => absurd h (by decide)⟩
          show ADCall _ _ _ _ _ _
          refine .mk _ _ (zb2 g c v hl hs hk) rfl ?_
          have sm := za4 g c v
          have ef : IntKind.i64.wrap ((zae g c v).field_ + 1) = c.field_ + 1 := by rw [sm.field_, w3]
          show ABr (decide (IntKind.i64.wrap ((zae g c v).field_ + 1) = (headH g c.at_).n)) _ _
          rw [ef]
          by_cases hl2 : c.field_ + 1 = (headH g c.at_).n
          · rw [if_pos hl2, decide_eq_true hl2]
            show ABr _ _ _
            refine ⟨fun _ => ?_, fun h => absurd h (by decide)⟩
            show ACall _ _ _ _ _ _
            refine .hand [(16, 16)] [(16, .vars (wkV (zaa g c v) { zae g c v with met := true, field_ := c.field_ + 1 }))] [.c (.ptr 16 0 0), .int 0] _ (.cons _ _ _ _ (.c _ _ (.ptr _ _ _ _ rfl)) (.cons _ _ _ _ .same .nil)) (.old 16 16 _ _ _ rfl rfl (.vars _ _ (zb rfl)) .nil) rfl (zcZ (zaa g c v) { zae g c v with met := true, field_ := c.field_ + 1 } 0) ?_
            rintro H r ⟨rfl, rfl⟩ _ _
            refine ⟨rfl, .inl rfl, ?_⟩
            show ARet _ _ _
            exact ⟨[(16, 16)], [(16, .vars (wkV (zaa g c v) { zae g c v with met := true, at_ := 0, field_ := 0 }))], [], .nil, .old 16 16 _ _ _ rfl rfl (.vars _ _ (by repeat' first | exact .nil | refine .cons _ _ _ _ ?_ ?_ | exact .d _ | exact .int_eq rfl)) .nil, rfl, rfl, rfl⟩
          · rw [if_neg hl2, decide_eq_false hl2]
            show ABr _ _ _
            refine ⟨fun h => absurd h (by decide), fun _ => ?_⟩
            show ARet _ _ _
            exact ⟨[(16, 16)], [(16, .vars (wkV (zaa g c v) { zae g c v with met := true, field_ := c.field_ + 1 }))], [], .nil, .old 16 16 _ _ _ rfl rfl (.vars _ _ (by repeat' first | exact .nil | refine .cons _ _ _ _ ?_ ?_ | exact .d _ | exact .int_eq rfl)) .nil, rfl, rfl, rfl⟩
        | false =>
          have e1 : zc9 g c v = (g, c) := by unfold zc9; rw [if_neg (by rw [hy]; decide)]
          rw [e1]
          show ABr _ _ _
          refine ⟨fun h => absurd h (by decide), fun _ => ?_⟩
          show ABr (decide (IntKind.i64.wrap (c.field_ + 1) = (headH g c.at_).n)) _ _
          rw [w3]
          by_cases hl2 : c.field_ + 1 = (headH g c.at_).n
          · rw [if_pos hl2, decide_eq_true hl2]
            show ABr _ _ _
            refine ⟨fun _ => ?_, fun h => absurd h (by decide)⟩
            show ACall _ _ _ _ _ _
            refine .hand [(16, 16)] [(16, .vars (wkV g { c with field_ := c.field_ + 1 }))] [.c (.ptr 16 0 0), .int 0] _ (.cons _ _ _ _ (.c _ _ (.ptr _ _ _ _ rfl)) (.cons _ _ _ _ .same .nil)) (.old 16 16 _ _ _ rfl rfl (.vars _ _ (zb rfl)) .nil) rfl (zcZ g { c with field_ := c.field_ + 1 } 0) ?_
            rintro H r ⟨rfl, rfl⟩ _ _
            refine ⟨rfl, .inl rfl, ?_⟩
            show ARet _ _ _
            exact ⟨[(16, 16)], [(16, .vars (wkV g { c with at_ := 0, field_ := 0 }))], [], .nil, .old 16 16 _ _ _ rfl rfl (.vars _ _ (by repeat' first | exact .nil | refine .cons _ _ _ _ ?_ ?_ | exact .d _ | exact .int_eq rfl)) .nil, rfl, rfl, rfl⟩
          · rw [if_neg hl2, decide_eq_false hl2]
            show ABr _ _ _
            refine ⟨fun h => absurd h (by decide), fun _ => ?_⟩
            show ARet _ _ _
            exact ⟨[(16, 16)], [(16, .vars (wkV g { c with field_ := c.field_ + 1 }))], [], .nil, .old 16 16 _ _ _ rfl rfl (.vars _ _ (by repeat' first | exact .nil | refine .cons _ _ _ _ ?_ ?_ | exact .d _ | exact .int_eq rfl)) .nil, rfl, rfl, rfl⟩
  · show ABr (!decide (headE g c.at_ = 0)) _ _
    rw [decide_eq_false hE, if_pos (.inl hE)]
    show ABr _ _ _
    refine ⟨fun _ => ?_, fun h => absurd h (by decide)⟩
    conv => whnf
    refine ⟨fun _ => ?_, fun h => absurd h (by decide)⟩
    show ABr _ _ _
    refine ⟨fun _ => ?_, fun h => absurd h (by decide)⟩
    show ACall _ _ _ _ _ _
    refine .hand [(16, 16)] [(16, .vars (wkV g c))] [.c (.ptr 16 0 0), .int 0] _ (.cons _ _ _ _ (.c _ _ (.ptr _ _ _ _ rfl)) (.cons _ _ _ _ .same .nil)) (.old 16 16 _ _ _ rfl rfl (.vars _ _ (zb rfl)) .nil) rfl (zcZ g c 0) ?_
    rintro H r ⟨rfl, rfl⟩ _ _
    refine ⟨rfl, .inl rfl, ?_⟩
    show ARet _ _ _
    exact ⟨[(16, 16)], [(16, .vars (wkV g { c with at_ := 0, field_ := 0 }))], [], .nil, .old 16 16 _ _ _ rfl rfl (.vars _ _ (by repeat' first | exact .nil | refine .cons _ _ _ _ ?_ ?_ | exact .d _ | exact .int_eq rfl)) .nil, rfl, rfl, rfl⟩
theorem zwY {g:Hp} (hm:zz g []=true) {n:Int} (h0:0≤n) (hc:n < (g.cards.length:Int)):IntKind.i64.wrap (16+IntKind.i64.wrap (8 * n))=16+8 * n∧zaU g (16+8 * n)=zdU g n true:=by
 obtain ⟨_,_,h3,h4,_,h64⟩:=zr (zM hm)
 have e1:IntKind.i64.wrap (8 * n)=8 * n:=zB (by omega) (by omega)
 have e2:IntKind.i64.wrap (16+8 * n)=16+8 * n:=zB (by omega) (by omega)
 have h0':=zfK (a:=16+8 * n) hm ⟨by omega,by omega⟩
 refine ⟨by rw [e1,e2],?_⟩
 rw [zkw h0',zgr h0']
 congr 1
 omega
theorem zso (g : Hp) (c : Col) (hl : g.light) (hm : zz g [] = true) (h0 : 0 ≤ c.card) (hc : c.card < (g.cards.length : Int)) : Spec X 210 [(16, .vars (wkV g c))] [.c (.ptr 16 0 0)] (fun H r => H = [(16, .vars (wkV (zsb g c).1 (zsb g c).2))] ∧ r = .tup []) := by
  refine zd X_ok Tryz.f210 (by kernel_rfl) (by kernel_rfl) (by kernel_rfl) fun hb hH => ⟨rfl, ?_⟩
  have wc := ztU hm h0 hc
  obtain ⟨wa, wd⟩ := zwY hm h0 hc
  unfold zsb
  cases hd : c.met with
  | true =>
    rw [if_pos rfl, ← wd]
    show ABr _ _ _
    refine ⟨fun _ => ?_, fun h => absurd h (by simp [hd])⟩
    show ADCall _ _ _ _ _ _
    refine .mk _ _ (zqm g c) rfl ?_
    rw [wa]
    show ADCall _ _ _ _ _ _
    refine .mk _ _ (zgQ g (16 + 8 * c.card) hl (by obtain ⟨_, _, h3, h4, _, h64⟩ := zr (zM hm); omega)) rfl ?_
    show ARet _ _ _
    exact ⟨[(16, 16)], [(16, .vars (wkV (zaU g (16 + 8 * c.card)) { c with card := c.card + 1, seek := 0, met := false }))], [], .nil, .old 16 16 _ _ _ rfl rfl (.vars _ _ (by repeat' first | exact .nil | refine .cons _ _ _ _ ?_ ?_ | exact .d _ | exact .int_eq wc)) .nil, rfl, rfl, rfl⟩
  | false =>
    rw [if_neg (by decide)]
    show ABr _ _ _
    refine ⟨fun h => absurd h (by simp [hd]), fun _ => ?_⟩
    show ARet _ _ _
    exact ⟨[(16, 16)], [(16, .vars (wkV g { c with card := c.card + 1, seek := 0, met := false }))], [], .nil, .old 16 16 _ _ _ rfl rfl (.vars _ _ (by repeat' first | exact .nil | refine .cons _ _ _ _ ?_ ?_ | exact .d _ | exact .int_eq wc)) .nil, rfl, rfl, rfl⟩
set_option maxRecDepth 60000 in
set_option maxHeartbeats 2000000 in
theorem zry (g : Hp) (c : Col) (hl : g.light) (hs : g.small) (hk : c.work.length < most) : Spec X 162 [] [g.tv, c.tv] (Ret [] (.tup [(ziK g c).1.tv, (ziK g c).2.tv])) := by
  refine zd X_ok Tryz.f162 (by kernel_rfl) (by kernel_rfl) (by kernel_rfl) fun hb hH => ⟨rfl, ?_⟩
  show ACall _ _ _ _ _ _
  refine .mk _ (zsw g c hs (Nat.le_of_lt hk)) fun H r ⟨eH, er⟩ _ _ => ⟨.inl rfl, ?_⟩
  subst eH er
  show ACall _ _ _ _ _ _
  refine za (zbv g hl) rfl ?_
  show ABr (bif (bif !zz g [] then true else !decide (c.phase = 4)) then true else decide (c.card < 0)) _ _
  unfold ziK
  by_cases hx : zz g [] = true ∧ c.phase = 4 ∧ 0 ≤ c.card
  · obtain ⟨hm, hp, h0⟩ := hx
    have hc0 : (bif (bif !zz g [] then true else !decide (c.phase = 4)) then true else decide (c.card < 0)) = false := by rw [hm, decide_eq_true hp, decide_eq_false (by omega)]; rfl
    refine ⟨fun h => absurd (hc0.symm.trans h) (by decide), fun _ => ?_⟩
    rw [if_pos ⟨hm, hp, h0⟩]
    show ABr (decide (c.card ≥ (g.cards.length : Int))) _ _
    by_cases hc : (g.cards.length : Int) ≤ c.card
    · rw [if_pos hc, decide_eq_true (show c.card ≥ (g.cards.length : Int) from hc)]
      show ABr _ _ _
      refine ⟨fun _ => ?_, fun h => absurd h (by decide)⟩
      show ACall _ _ _ _ _ _
      refine .hand [(224, 16)] [(16, .vars (wkV g { c with phase := 5, seek := 0, card := 0, met := false }))] [.c (.ptr 16 0 0), .int 0] _ (.cons _ _ _ _ (.c _ _ (.ptr _ _ _ _ rfl)) (.cons _ _ _ _ .same .nil)) (.old 16 224 _ _ _ rfl rfl (.vars _ _ (zb rfl)) .nil) rfl (zcZ g { c with phase := 5, seek := 0, card := 0, met := false } 0) ?_
      rintro H r ⟨rfl, rfl⟩ _ _
      refine ⟨rfl, .inl rfl, ?_⟩
      show ARet _ _ _
      exact zi rfl ⟨rfl, rfl⟩
    · rw [if_neg hc, decide_eq_false (show ¬ c.card ≥ (g.cards.length : Int) from hc)]
      show ABr _ _ _
      refine ⟨fun h => absurd h (by decide), fun _ => ?_⟩
      have hc : c.card < (g.cards.length : Int) := by omega
      by_cases hsk : c.seek = 0
      · show ABr (decide (c.seek = 0)) _ _
        rw [if_pos hsk, decide_eq_true hsk]
        show ABr _ _ _
        refine ⟨fun _ => ?_, fun h => absurd h (by decide)⟩
        show ACall _ _ _ _ _ _
        refine .hand [(224, 16)] [(16, .vars (wkV g c))] [.c (.ptr 16 0 0)] _ (.cons _ _ _ _ (.c _ _ (.ptr _ _ _ _ rfl)) .nil) (.old 16 224 _ _ _ rfl rfl (.vars _ _ (zb rfl)) .nil) rfl (zpV g c hl hm h0 hc) ?_
        rintro H r ⟨rfl, rfl⟩ _ _
        refine ⟨rfl, .inl rfl, ?_⟩
        show ARet _ _ _
        exact zi rfl ⟨rfl, rfl⟩
      · show ABr (decide (c.seek = 0)) _ _
        rw [if_neg hsk, decide_eq_false hsk]
        show ABr _ _ _
        refine ⟨fun h => absurd h (by decide), fun _ => ?_⟩
        by_cases ha : c.at_ = 0
        · show ABr (!decide (c.at_ = 0)) _ _
          rw [if_neg (fun k => k ha), decide_eq_true ha]
          show ABr _ _ _
          refine ⟨fun h => absurd h (by decide), fun _ => ?_⟩
          show ACall _ _ _ _ _ _
          refine za (zp7 g c.card c.seek hl) rfl ?_
          cases hn : zgb g c.card c.seek with
          | some a =>
            show ABr _ _ _
            refine ⟨fun _ => ?_, fun h => absurd h (by simp)⟩
            show ACall _ _ _ _ _ _
            refine .hand [(224, 16)] [(16, .vars (wkV g c))] [.c (.ptr 16 0 0), .int a] _ (.cons _ _ _ _ (.c _ _ (.ptr _ _ _ _ rfl)) (.cons _ _ _ _ .same .nil)) (.old 16 224 _ _ _ rfl rfl (.vars _ _ (zb rfl)) .nil) rfl (zcZ g c a) ?_
            rintro H r ⟨rfl, rfl⟩ _ _
            refine ⟨rfl, .inl rfl, ?_⟩
            show ARet _ _ _
            exact zi rfl ⟨rfl, rfl⟩
          | none =>
            show ABr _ _ _
            refine ⟨fun h => absurd h (by simp), fun _ => ?_⟩
            show ACall _ _ _ _ _ _
            refine .hand [(224, 16)] [(16, .vars (wkV g c))] [.c (.ptr 16 0 0)] _ (.cons _ _ _ _ (.c _ _ (.ptr _ _ _ _ rfl)) .nil) (.old 16 224 _ _ _ rfl rfl (.vars _ _ (zb rfl)) .nil) rfl (zso g c hl hm h0 hc) ?_
            rintro H r ⟨rfl, rfl⟩ _ _
            refine ⟨rfl, .inl rfl, ?_⟩
            show ARet _ _ _
            exact zi rfl ⟨rfl, rfl⟩
        · show ABr (!decide (c.at_ = 0)) _ _
          rw [if_pos ha, decide_eq_false ha]
          show ABr _ _ _
          refine ⟨fun _ => ?_, fun h => absurd h (by decide)⟩
          show ACall _ _ _ _ _ _
          refine .hand [(224, 16)] [(16, .vars (wkV g c))] [.c (.ptr 16 0 0)] _ (.cons _ _ _ _ (.c _ _ (.ptr _ _ _ _ rfl)) .nil) (.old 16 224 _ _ _ rfl rfl (.vars _ _ (zb rfl)) .nil) rfl (znU g c hl hs hk) ?_
          rintro H r ⟨rfl, rfl⟩ _ _
          refine ⟨rfl, .inl rfl, ?_⟩
          show ARet _ _ _
          exact zi rfl ⟨rfl, rfl⟩
  · rw [if_neg hx]
    have hc0 : (bif (bif !zz g [] then true else !decide (c.phase = 4)) then true else decide (c.card < 0)) = true := by
      cases hm : zz g [] with
      | false => rfl
      | true =>
        by_cases hp : c.phase = 4
        · have : c.card < 0 := by
            apply Classical.byContradiction
            intro h; exact hx ⟨hm, hp, by omega⟩
          rw [decide_eq_true hp, decide_eq_true this]; rfl
        · rw [decide_eq_false hp]; rfl
    refine ⟨fun _ => ?_, fun h => absurd (hc0.symm.trans h) (by decide)⟩
    show ARet _ _ _
    exact zi rfl ⟨rfl, rfl⟩
end Go.Abs
namespace Go.Abs
open Go.Proofs Go.Proofs.YtlankjlnnimdoaaGreatDoor
set_option maxRecDepth 8000
theorem ztc (g:Hp) (c:Col) (hs:g.small) (hw:c.work.length≤most):Spec X 211 [] [g.tv,c.tv] (Ret [] (.tup [g.tv,c.tv])):=by
 refine zd X_ok Tryz.f211 (by kernel_rfl) (by kernel_rfl) (by kernel_rfl) fun hb hH=>⟨rfl,?_⟩
 obtain ⟨h1,h2,h3,h4,h5,h6⟩:=hs
 show ADCall ..
 refine .mk _ _ (ze g.w h1) rfl ?_
 show ADCall ..
 refine .mk _ _ (zW g.pages h2) rfl ?_
 show ADCall ..
 refine .mk _ _ (zaf g.cards h3) rfl ?_
 show ∃ n,_
 refine ⟨4,?_⟩
 show ALoop ..
 refine .next ?_
 show ABr ..
 refine ⟨fun _=>?_,fun h=>absurd h (by decide)⟩
 show AOb ..
 refine ⟨by decide,?_⟩
 show ACall ..
 refine za (ze g.free.l0 h4) rfl ?_
 show AOb ..
 refine ⟨by decide,?_⟩
 show ALoop ..
 refine .next ?_
 show ABr ..
 refine ⟨fun _=>?_,fun h=>absurd h (by decide)⟩
 show AOb ..
 refine ⟨by decide,?_⟩
 show ACall ..
 refine za (ze g.free.l1 h5) rfl ?_
 show AOb ..
 refine ⟨by decide,?_⟩
 show ALoop ..
 refine .next ?_
 show ABr ..
 refine ⟨fun _=>?_,fun h=>absurd h (by decide)⟩
 show AOb ..
 refine ⟨by decide,?_⟩
 show ACall ..
 refine za (ze g.free.l2 h6) rfl ?_
 show AOb ..
 refine ⟨by decide,?_⟩
 show ALoop ..
 refine .next ?_
 show ABr ..
 refine ⟨fun h=>absurd h (by decide),fun _=>?_⟩
 show ACall ..
 refine za (ze c.work hw) rfl ?_
 show ARet ..
 exact zi rfl ⟨rfl,rfl⟩
theorem zka (g:Hp) (c:Col) (a:Int) (hl:g.light) (hs:g.small):Spec X 214 [] [g.tv,c.tv,.int a] (Ret [] (.int (zba g c a))):=by
 refine zd X_ok Tryz.f214 (by kernel_rfl) (by kernel_rfl) (by kernel_rfl) fun hb hH=>⟨rfl,?_⟩
 unfold zba
 show ACall ..
 refine za (zhd g c a hl hs) rfl ?_
 show ABr (!decide (atK g c a=2)) _ _
 refine ⟨fun h=>?_,fun h=>?_⟩
 ·have h:¬ atK g c a=2:=by simpa using h
  rw [if_neg h]
  show ARet ..
  exact zi rfl ⟨rfl,rfl⟩
 ·have h:atK g c a=2:=by simpa using h
  rw [if_pos h]
  show ACall ..
  refine za (zav g a hl) rfl ?_
  show ARet ..
  exact zi rfl ⟨rfl,rfl⟩
theorem zqU {c d:Col} (h1:d.epoch=c.epoch) (h2:d.major=c.major) (g:Hp) (a:Int):zbu g d a=zbu g c a:=by unfold zbu;rw [zsd h1 h2]
theorem zsL {c d:Col} (h1:d.epoch=c.epoch) (h2:d.major=c.major) (g:Hp) (a:Int):zba g d a=zba g c a:=by unfold zba;rw [zsd h1 h2]
set_option maxHeartbeats 2000000 in
theorem zpp (g:Hp) (c:Col) (hl:g.light) (hs:g.small) (hk:c.work.length < most):Spec X 212 [] [g.tv,c.tv] (Ret [] (.tup [(zk4 g c).1.tv,(zk4 g c).2.tv])):=by
 refine zd X_ok Tryz.f212 (by kernel_rfl) (by kernel_rfl) (by kernel_rfl) fun hb hH=>⟨rfl,?_⟩
 show ADCall ..
 refine .mk _ _ (zka g c c.at_ hl hs) rfl ?_
 unfold zk4
 show ABr (bif decide (c.field_ < 0) then true else decide (c.field_≥zba g c c.at_)) _ _
 by_cases hf:c.field_ < 0∨zba g c c.at_≤c.field_
 ·rw [if_pos hf]
  have hc:(bif decide (c.field_ < 0) then true else decide (c.field_≥zba g c c.at_))=true:=by
   rcases hf with h | h <;> simp [h]
  rw [hc]
  show ABr ..
  refine ⟨fun _=>?_,fun h=>absurd h (by decide)⟩
  show ARet ..
  exact zi rfl ⟨rfl,rfl⟩
 ·rw [if_neg hf]
  have hc:(bif decide (c.field_ < 0) then true else decide (c.field_≥zba g c c.at_))=false:=by
   simp;omega
  rw [hc]
  show ABr ..
  refine ⟨fun h=>absurd h (by decide),fun _=>?_⟩
  have h0:0≤c.field_:=by omega
  have hlt:c.field_ < zba g c c.at_:=by omega
  have hg2:atK g c c.at_=2:=zs1.1 (by omega)
  have hE:=(zjV hg2).1
  have hn:zba g c c.at_=(headH g c.at_).n:=if_pos hg2
  obtain ⟨hm,_,_⟩:=zV hE
  obtain ⟨hmw,_,hlen,_,_,h64⟩:=zr (zM hm)
  obtain ⟨⟨a1,a2⟩,_⟩:=ziC (f:=c.field_+1) hE (by omega) (by omega)
  have ha16:=(zjV hg2).2.2
  have w1:IntKind.i64.wrap (c.at_+1)=c.at_+1:=zB (by omega) (by omega)
  have w2:IntKind.i64.wrap (c.at_+1+c.field_)=c.at_+1+c.field_:=zB (by omega) (by omega)
  have w3:IntKind.i64.wrap (c.field_+1)=c.field_+1:=zB (by omega) (by omega)
  have hv:at0 g.w (IntKind.i64.wrap (IntKind.i64.wrap (c.at_+1)+c.field_) - 16).toNat=wordOf g (c.at_+1+c.field_):=by
   rw [w1,w2]
   unfold wordOf zh
   rw [if_pos ⟨hmw,by omega,by omega⟩]
  generalize wordOf g (c.at_+1+c.field_)=v at hv
  show ACall ..
  refine za (zfR g.w (IntKind.i64.wrap (IntKind.i64.wrap (c.at_+1)+c.field_)) hmw (by rw [w1,w2];omega)) rfl ?_
  rw [hv]
  show ACall ..
  refine za (zb2 g c v hl hs hk) rfl ?_
  have sm:=za4 g c v
  have ef:IntKind.i64.wrap ((zae g c v).field_+1)=c.field_+1:=by rw [sm.field_,w3]
  show ABr (decide (IntKind.i64.wrap ((zae g c v).field_+1)=zba g c c.at_)) _ _
  rw [ef]
  by_cases hl2:c.field_+1=zba g c c.at_
  ·rw [if_pos hl2,decide_eq_true hl2]
   show ABr ..
   refine ⟨fun _=>?_,fun h=>absurd h (by decide)⟩
   have hMs:=zpe g c v
   show ACall ..
   refine za (zhd (zaa g c v) { zae g c v with field_:=c.field_+1 } c.at_ (hMs.light hl) (hMs.small hs)) rfl ?_
   rw [zqU (c:=c) (d:={ zae g c v with field_:=c.field_+1 }) sm.epoch sm.major]
   show ARet ..
   exact zi rfl ⟨rfl,rfl⟩
  ·rw [if_neg hl2,decide_eq_false hl2]
   show ABr ..
   refine ⟨fun h=>absurd h (by decide),fun _=>?_⟩
   show ARet ..
   exact zi rfl ⟨rfl,rfl⟩
theorem zwK {n:Nat} (h:n < most):IntKind.i64.wrap ((n:Int) - 1)=(n:Int) - 1:=zB (by omega) (by unfold most at h;omega)
set_option maxHeartbeats 2000000 in
theorem zqp (g:Hp) (c:Col) (hl:g.light) (hs:g.small) (hk:c.work.length < most):Spec X 163 [] [g.tv,c.tv] (Ret [] (.tup [(zfw g c).1.tv,(zfw g c).2.tv])):=by
 refine zd X_ok Tryz.f163 (by kernel_rfl) (by kernel_rfl) (by kernel_rfl) fun hb hH=>⟨rfl,?_⟩
 have hlw:=zwK hk
 show ACall ..
 refine za (zbv g hl) rfl ?_
 show ACall ..
 refine za (ztc g c hs (Nat.le_of_lt hk)) rfl ?_
 unfold zfw
 show ABr (!zz g []) _ _
 refine ⟨fun h=>?_,fun h=>?_⟩
 ·have hm:zz g []=false:=by simpa using h
  rw [if_neg (fun k=>by rw [hm] at k;exact Bool.false_ne_true k.1)]
  show ABr ..
  refine ⟨fun _=>?_,fun h=>absurd h (by simp [hm])⟩
  show ARet ..
  exact zi rfl ⟨rfl,rfl⟩
 ·have hm:zz g []=true:=by simpa using h
  show ABr (!decide (c.phase=5)) _ _
  refine ⟨fun h=>?_,fun h=>?_⟩
  ·have hp:c.phase≠5:=by simpa using h
   rw [if_neg (fun k=>hp k.2)]
   show ARet ..
   exact zi rfl ⟨rfl,rfl⟩
  ·have hp:c.phase=5:=by simpa using h
   rw [if_pos ⟨hm,hp⟩]
   show ABr (!decide (c.at_=0)) _ _
   refine ⟨fun h=>?_,fun h=>?_⟩
   ·have ha:c.at_≠0:=by simpa using h
    rw [if_pos ha]
    show ACall ..
    refine za (zpp g c hl hs hk) rfl ?_
    show ARet ..
    exact zi rfl ⟨rfl,rfl⟩
   ·have ha:c.at_=0:=by simpa using h
    rw [if_neg (fun k=>k ha)]
    show ABr (decide (IntKind.i64.wrap ((c.work.length:Int) - 1)≥0)) _ _
    by_cases hw:0 < c.work.length
    ·rw [if_pos hw,decide_eq_true (show IntKind.i64.wrap ((c.work.length:Int) - 1)≥0 by rw [hlw];omega)]
     show ABr ..
     refine ⟨fun _=>?_,fun h=>absurd h (by decide)⟩
     have e3:c.work.length - 1=(IntKind.i64.wrap ((c.work.length:Int) - 1)).toNat:=by rw [hlw];omega
     show AOb ((0:Int)≤IntKind.i64.wrap ((c.work.length:Int) - 1)∧IntKind.i64.wrap ((c.work.length:Int) - 1) < (c.work.length:Int)) _
     refine ⟨by rw [hlw];omega,?_⟩
     show AOb ((0:Int)≤IntKind.i64.wrap ((c.work.length:Int) - 1)∧IntKind.i64.wrap ((c.work.length:Int) - 1)≤(c.work.length:Int)) _
     refine ⟨by rw [hlw];omega,?_⟩
     rw [e3]
     show ARet ..
     exact zi rfl ⟨rfl,rfl⟩
    ·rw [if_neg hw,decide_eq_false (show ¬ IntKind.i64.wrap ((c.work.length:Int) - 1)≥0 by rw [hlw];omega)]
     show ABr ..
     refine ⟨fun h=>absurd h (by decide),fun _=>?_⟩
     show ABr (!decide (c.seek=0)) _ _
     refine ⟨fun h=>?_,fun h=>?_⟩
     ·have hsk:c.seek≠0:=by simpa using h
      rw [if_pos hsk]
      show ACall ..
      refine za (zjO g.pages c.seek) rfl ?_
      show ACall ..
      refine za (zka g { c with seek:=zac g.pages c.seek } (zac g.pages c.seek) hl hs) rfl ?_
      rw [zsL (c:=c) (d:={ c with seek:=zac g.pages c.seek }) rfl rfl]
      show ABr (decide (zba g c (zac g.pages c.seek)=0)) _ _
      refine ⟨fun h=>?_,fun h=>?_⟩
      ·rw [if_pos (of_decide_eq_true h)]
       show ARet ..
       exact zi rfl ⟨rfl,rfl⟩
      ·rw [if_neg (of_decide_eq_false h)]
       show ARet ..
       exact zi rfl ⟨rfl,rfl⟩
     ·have hsk:c.seek=0:=by simpa using h
      rw [if_neg (fun k=>k hsk)]
      show ABr (c.over) _ _
      refine ⟨fun h=>?_,fun h=>?_⟩
      ·rw [if_pos h]
       show ARet ..
       exact zi rfl ⟨rfl,rfl⟩
      ·rw [if_neg (fun k=>by rw [h] at k;cases k)]
       show ARet ..
       exact zi rfl ⟨rfl,rfl⟩
end Go.Abs
namespace Go.Abs
open Go.Proofs Go.Proofs.YtlankjlnnimdoaaGreatDoor
set_option maxRecDepth 8000
theorem zkg (p:Int):Spec X 166 [] [.int p] (Ret [] (.int (zcm p))):=by
 refine zd X_ok Tryz.f166 (by kernel_rfl) (by kernel_rfl) (by kernel_rfl) fun hb hH=>⟨rfl,?_⟩
 unfold zcm
 show ABr (decide (p=0)) _ _
 refine ⟨fun h=>?_,fun h=>?_⟩
 ·rw [if_pos (of_decide_eq_true h)]
  show ARet ..
  exact zi rfl ⟨rfl,rfl⟩
 ·rw [if_neg (of_decide_eq_false h)]
  show ABr (decide (p=1)) _ _
  refine ⟨fun h=>?_,fun h=>?_⟩
  ·rw [if_pos (of_decide_eq_true h)]
   show ARet ..
   exact zi rfl ⟨rfl,rfl⟩
  ·rw [if_neg (of_decide_eq_false h)]
   show ABr (decide (p=2)) _ _
   refine ⟨fun h=>?_,fun h=>?_⟩
   ·rw [if_pos (of_decide_eq_true h)]
    show ARet ..
    exact zi rfl ⟨rfl,rfl⟩
   ·rw [if_neg (of_decide_eq_false h)]
    show ARet ..
    exact zi rfl ⟨rfl,rfl⟩
theorem zgf (c:Col) (t:Thread):Spec X 143 [] [c.tv,t.tv] (Ret [] (.bo (zal c t))):=by
 refine zd X_ok Tryz.f143 (by kernel_rfl) (by kernel_rfl) (by kernel_rfl) fun hb hH=>⟨rfl,?_⟩
 show ACall ..
 refine za (zkg c.phase) rfl ?_
 unfold zcm zal
 by_cases h0:c.phase=0
 ·rw [if_pos h0,if_pos h0]
  show ABr ..
  refine ⟨fun _=>?_,fun h=>absurd h (by decide)⟩
  show ARet ..
  exact zi rfl ⟨rfl,rfl⟩
 ·rw [if_neg h0,if_neg h0]
  by_cases h1:c.phase=1
  ·rw [if_pos h1,if_pos h1]
   show ABr ..
   refine ⟨fun h=>absurd h (by decide),fun _=>?_⟩
   show ABr ..
   refine ⟨fun _=>?_,fun h=>absurd h (by decide)⟩
   show ARet ..
   exact zi rfl ⟨rfl,rfl⟩
  ·rw [if_neg h1,if_neg h1]
   by_cases h2:c.phase=2
   ·rw [if_pos h2,if_pos h2]
    show ABr ..
    refine ⟨fun h=>absurd h (by decide),fun _=>?_⟩
    show ABr ..
    refine ⟨fun h=>absurd h (by decide),fun _=>?_⟩
    show ABr ..
    refine ⟨fun _=>?_,fun h=>absurd h (by decide)⟩
    show ARet ..
    refine zw (x:=bif decide (t.epoch=c.epoch) then decide (t.stage≥2) else false) ?_ ⟨rfl,rfl⟩
    rw [zcY]
    cases decide (t.epoch=c.epoch) <;> rfl
   ·rw [if_neg h2,if_neg h2]
    show ABr ..
    refine ⟨fun h=>absurd h (by decide),fun _=>?_⟩
    show ABr ..
    refine ⟨fun h=>absurd h (by decide),fun _=>?_⟩
    show ABr ..
    refine ⟨fun h=>absurd h (by decide),fun _=>?_⟩
    show ARet ..
    refine zw (x:=bif decide (t.epoch=c.epoch) then decide (t.stage=3) else false) ?_ ⟨rfl,rfl⟩
    rw [zcY]
    cases decide (t.epoch=c.epoch) <;> rfl
theorem zkm (c : Col) (t : Thread) : Spec X 114 [] [c.tv, t.tv] (Ret [] (.bo (zaK c t))) := by
  refine zd X_ok Tryz.f114 (by kernel_rfl) (by kernel_rfl) (by kernel_rfl) fun hb hH => ⟨rfl, ?_⟩
  unfold zaK
  show AIf (t.live = true ∧ True) _ _
  by_cases hl : t.live = true
  · refine ⟨fun _ => ?_, fun h => absurd ⟨hl, trivial⟩ h⟩
    show ACall _ _ _ _ _ _
    refine za (zjS t) rfl ?_
    conv => whnf
    trace_state
    skip
    show AIf ((bif decide t.mayT then t.pc == 0 else false) = true ∧ True) _ _
    by_cases hb : (bif decide t.mayT then t.pc == 0 else false) = true
    · refine ⟨fun _ => ?_, fun h => absurd ⟨hb, trivial⟩ h⟩
      show ACall _ _ _ _ _ _
      refine za (zgf c t) rfl ?_
      show ARet _ _ _
      refine zw (x := !zal c t) ?_ ⟨rfl, rfl⟩
      cases h1 : decide t.mayT with
      | false => rw [h1] at hb; cases hb
      | true =>
        rw [h1] at hb
        rw [decide_eq_true (show t.pc = 0 by simpa using hb), hl]
        rfl
    · refine ⟨fun h => absurd h.1 hb, fun _ => ?_⟩
      show AOb _ _
      refine ⟨by simpa using hb, ?_⟩
      show ARet _ _ _
      refine zw (x := false) ?_ ⟨rfl, rfl⟩
      cases h1 : decide t.mayT with
      | false => rw [Bool.false_and, Bool.and_false]
      | true =>
        rw [h1] at hb
        rw [decide_eq_false (show ¬t.pc = 0 by simpa using hb), Bool.false_and, Bool.and_false, Bool.and_false]
  · refine ⟨fun h => absurd h.1 hl, fun _ => ?_⟩
    show AOb _ _
    refine ⟨by simpa using hl, ?_⟩
    conv => whnf
    trace_state
    skip
    refine ⟨fun h => absurd h.1 Bool.false_ne_true, fun _ => ?_⟩
    show AOb _ _
    refine ⟨by rfl, ?_⟩
    show ARet _ _ _
    refine zw (x := false) ?_ ⟨rfl, rfl⟩
    rw [show t.live = false by simpa using hl, Bool.false_and]
set_option maxHeartbeats 4000000 in
set_option maxRecDepth 60000 in
theorem ziO (g:Hp) (c:Col) (t:Thread) (hs:g.small) (hw:c.work.length≤most) (ht:t.ok):Spec X 144 [] [g.tv,c.tv,t.tv] (Ret [] (.tup [g.tv,c.tv,t.tv])):=by
 refine zd X_ok Tryz.f144 (by kernel_rfl) (by kernel_rfl) (by kernel_rfl) fun hb hH=>⟨rfl,?_⟩
 obtain ⟨h1,h2,h3,h4,h5,h6⟩:=hs
 obtain ⟨t1,t2,t3,t4⟩:=ht
 show ADCall ..
 refine .mk _ _ (ze g.w h1) rfl ?_
 show ADCall ..
 refine .mk _ _ (zW g.pages h2) rfl ?_
 show ADCall ..
 refine .mk _ _ (zaf g.cards h3) rfl ?_
 show ADCall ..
 refine .mk _ _ (ze c.work hw) rfl ?_
 show ADCall ..
 refine .mk _ _ (zbY t.ops t1) rfl ?_
 show ∃ n,_
 refine ⟨4,?_⟩
 show ALoop ..
 refine .next ?_
 show ABr ..
 refine ⟨fun _=>?_,fun h=>absurd h (by decide)⟩
 show AOb ..
 refine ⟨by decide,?_⟩
 show ADCall ..
 refine .mk _ _ (ze g.free.l0 h4) rfl ?_
 show AOb ..
 refine ⟨by decide,?_⟩
 show ADCall ..
 refine .mk _ _ (ze t.cache.l0 t2) rfl ?_
 show AOb ..
 refine ⟨by decide,?_⟩
 show AOb ..
 refine ⟨by decide,?_⟩
 show ALoop ..
 refine .next ?_
 show ABr ..
 refine ⟨fun _=>?_,fun h=>absurd h (by decide)⟩
 show AOb ..
 refine ⟨by decide,?_⟩
 show ADCall ..
 refine .mk _ _ (ze g.free.l1 h5) rfl ?_
 show AOb ..
 refine ⟨by decide,?_⟩
 show ADCall ..
 refine .mk _ _ (ze t.cache.l1 t3) rfl ?_
 show AOb ..
 refine ⟨by decide,?_⟩
 show AOb ..
 refine ⟨by decide,?_⟩
 show ALoop ..
 refine .next ?_
 show ABr ..
 refine ⟨fun _=>?_,fun h=>absurd h (by decide)⟩
 show AOb ..
 refine ⟨by decide,?_⟩
 show ADCall ..
 refine .mk _ _ (ze g.free.l2 h6) rfl ?_
 show AOb ..
 refine ⟨by decide,?_⟩
 show ADCall ..
 refine .mk _ _ (ze t.cache.l2 t4) rfl ?_
 show AOb ..
 refine ⟨by decide,?_⟩
 show AOb ..
 refine ⟨by decide,?_⟩
 show ALoop ..
 refine .next ?_
 show ABr ..
 refine ⟨fun h=>absurd h (by decide),fun _=>?_⟩
 show ARet ..
 exact zi rfl ⟨rfl,rfl⟩
end Go.Abs
namespace Go.Abs
open Go.Proofs Go.Proofs.YtlankjlnnimdoaaGreatDoor
set_option maxRecDepth 8000
set_option maxHeartbeats 4000000 in
set_option maxRecDepth 60000 in
theorem zn0 (g:Hp) (c:Col) (t:Thread) (hl:g.light) (hs:g.small) (hw:c.work.length < most) (ht:t.ok):Spec X 115 [] [g.tv,c.tv,t.tv] (Ret [] (.tup [(ansG g c t).tv,(ansC g c t).tv,(ansT c t).tv])):=by
 refine zd X_ok Tryz.f115 (by kernel_rfl) (by kernel_rfl) (by kernel_rfl) fun hb hH=>⟨rfl,?_⟩
 show ACall ..
 refine za (zkm c t) rfl ?_
 show ACall ..
 refine za (ziO g c t hs (Nat.le_of_lt hw) ht) rfl ?_
 show ABr (!zaK c t) _ _
 refine ⟨fun h=>?_,fun h=>?_⟩
 ·have ha:zaK c t=false:=by simpa using h
  rw [zvw ha,zvH ha,znx ha]
  show ARet ..
  exact zi rfl ⟨rfl,rfl⟩
 ·have ha:zaK c t=true:=by simpa using h
  show ABr (!decide (t.epoch=c.epoch)) _ _
  refine ⟨fun h=>?_,fun h=>?_⟩
  ·have he:t.epoch≠c.epoch:=by simpa using h
   rcases zdx ha with ⟨_,hk,e⟩ | ⟨h1,_⟩ | ⟨h1,_⟩
   ·rw [e,show ansG g c t=g by unfold ansG;rw [if_neg (by omega)],show ansC g c t=c by unfold ansC;rw [if_neg (by omega)]]
    show ARet ..
    exact zi rfl ⟨rfl,rfl⟩
   ·exact absurd h1 he
   ·exact absurd h1 he
  ·have he:t.epoch=c.epoch:=by simpa using h
   show ABr (decide (c.phase=2)) _ _
   refine ⟨fun h=>?_,fun h=>?_⟩
   ·have hp:c.phase=2:=of_decide_eq_true h
    rcases zdx ha with ⟨h1,_⟩ | ⟨_,_,_,hk,e⟩ | ⟨_,_,_,h1,_⟩
    ·exact absurd he h1
    ·rw [e,show ansG g c t=g by unfold ansG;rw [if_neg (by omega)],show ansC g c t=c by unfold ansC;rw [if_neg (by omega)]]
     show ARet ..
     exact zi rfl ⟨rfl,rfl⟩
    ·exact absurd hp h1
   ·have hp:c.phase≠2:=of_decide_eq_false h
    obtain ⟨_,⟨_,_,m3,m4,_⟩,_⟩:=zj8 ha
    rcases zdx ha with ⟨h1,_⟩ | ⟨_,h1,_⟩ | ⟨_,_,_,_,_,hk,e⟩
    ·exact absurd he h1
    ·exact absurd h1 hp
    ·rw [e,show ansG g c t=zaa g c (t.reg t.root) by unfold ansG;rw [if_pos hk],show ansC g c t=zae g c (t.reg t.root) by unfold ansC;rw [if_pos hk]]
     clear ha he hk e
     obtain ⟨live,r0,r1,r2,r3,cache,epoch,stage,root,ops,pc,x,y⟩:=t
     have m3:0≤root:=m3
     have m4:root≤3:=m4
     rcases (show root=0∨root=1∨root=2∨root=3 by omega) with rfl | rfl | rfl | rfl
     ·show AOb ..
      refine ⟨by exact ⟨(by decide:(0:Int)≤0),(by decide:(0:Int) < 4)⟩,?_⟩
      show ADCall ..
      refine .mk _ _ (zb2 g c r0 hl hs hw) rfl ?_
      show ABr (IntKind.i64.wrap ((0:Int)+1) == 4) _ _
      show ABr ..
      refine ⟨fun h=>absurd h (by decide),fun _=>?_⟩
      show ARet ..
      exact zi rfl ⟨rfl,rfl⟩
     ·show AOb ..
      refine ⟨by exact ⟨(by decide:(0:Int)≤1),(by decide:(1:Int) < 4)⟩,?_⟩
      show ADCall ..
      refine .mk _ _ (zb2 g c r1 hl hs hw) rfl ?_
      show ABr (IntKind.i64.wrap ((1:Int)+1) == 4) _ _
      show ABr ..
      refine ⟨fun h=>absurd h (by decide),fun _=>?_⟩
      show ARet ..
      exact zi rfl ⟨rfl,rfl⟩
     ·show AOb ..
      refine ⟨by exact ⟨(by decide:(0:Int)≤2),(by decide:(2:Int) < 4)⟩,?_⟩
      show ADCall ..
      refine .mk _ _ (zb2 g c r2 hl hs hw) rfl ?_
      show ABr (IntKind.i64.wrap ((2:Int)+1) == 4) _ _
      show ABr ..
      refine ⟨fun h=>absurd h (by decide),fun _=>?_⟩
      show ARet ..
      exact zi rfl ⟨rfl,rfl⟩
     ·show AOb ..
      refine ⟨by exact ⟨(by decide:(0:Int)≤3),(by decide:(3:Int) < 4)⟩,?_⟩
      show ADCall ..
      refine .mk _ _ (zb2 g c r3 hl hs hw) rfl ?_
      show ABr (IntKind.i64.wrap ((3:Int)+1) == 4) _ _
      show ABr ..
      refine ⟨fun _=>?_,fun h=>absurd h (by decide)⟩
      show ARet ..
      exact zi rfl ⟨rfl,rfl⟩
end Go.Abs
namespace Go.Abs
open Go.Proofs Go.Proofs.YtlankjlnnimdoaaGreatDoor
set_option maxRecDepth 8000
theorem zuU {g:Nat} {x:Thread} {cs:List DV} {h:zg} {base:Nat} {k:TV→zg→Prop} {b:Bool} (hp:Spec X g [] (x.tv :: zcE cs) (Ret [] (.bo b))) (hk:k (.bo b) []) :
  ACall X g (x.tv :: zcE cs) h base k:=by
 refine za (r:=.bo b) ?_ (by simp [zb9,zdM]) hk
 show Spec X g [] (x.tv :: (zcE cs).map (zc3 h)) _
 rw [zid]
 exact hp
theorem zsR {p:Thread→Bool} {l:List Thread} (h:∀ x∈l,p x=false):l.findIdx? p=none:=by
 rw [List.findIdx?_eq_none_iff]
 exact h
theorem zsk {p:Thread→Bool} {l:List Thread} {i:Nat} (hi:i < l.length) (hj:∀ j,j < i→p (l.getD j default)=false) (h:p (l.getD i default)=true):l.findIdx? p=some i:=by
 rw [List.findIdx?_eq_some_iff_getElem]
 refine ⟨hi,?_,fun j hlt=>?_⟩
 ·rw [List.getD_eq_getElem?_getD,List.getElem?_eq_getElem hi] at h
  exact h
 ·have:=hj j hlt
  rw [List.getD_eq_getElem?_getD,List.getElem?_eq_getElem (by omega)] at this
  simpa using this
theorem zfy (l:List Thread) (g:Nat) (cs:List DV) (p:Thread→Bool) (hp:∀ x∈l,Spec X g [] (x.tv :: zcE cs) (Ret [] (.bo (p x)))) :
  Spec X 110 [] [.c (.d (.sl .thread l)),.c (.d (.fn g [] cs))] (Ret [] (.int (zke (l.findIdx? p)))):=by
 refine zd X_ok Tryz.f110 (by kernel_rfl) (by kernel_rfl) (by kernel_rfl) fun hb _=>⟨rfl,?_⟩
 have hla:l.length≤zD:=(hb (.c (.d (.sl .thread l))) (by simp)).1
 unfold zD at hla
 show ∃ n,_
 refine ⟨0,ALoop.inv (ι:={i:Nat // i≤l.length∧∀ j,j < i→p (l.getD j default)=false}) (fun i=>⟨[(0,.c (.d (.sl .thread l))),(1,.c (.d (.fn g [] cs))),(7,.int l.length),(8,.int i.1)],[],32⟩) (fun i=>l.length - i.1) ⟨0,Nat.zero_le _,fun j hj=>absurd hj (by omega)⟩ ?_ ?_⟩
 ·exact ⟨[],.cons _ _ _ .same (.cons _ _ _ .same (.cons _ _ _ .same (.cons _ _ _ .same .nil))),.nil,rfl⟩
 ·rintro ⟨i,hi,hn⟩
  show ABr (decide ((i:Int) < (l.length:Int))) _ _
  refine ⟨fun h=>?_,fun h=>?_⟩
  ·have hlt:i < l.length:=by simpa using h
   show AOb ((0:Int)≤(i:Int)∧(i:Int) < (l.length:Int)) _
   refine ⟨by omega,?_⟩
   have hmem:l.getD i default∈l:=by
    rw [List.getD_eq_getElem?_getD,List.getElem?_eq_getElem hlt]
    exact List.getElem_mem hlt
   refine zuU (hp (l.getD i default) hmem) ?_
   show ABr (p (l.getD i default)) _ _
   refine ⟨fun h=>?_,fun h=>?_⟩
   ·show ARet ..
    refine zaR (x:=(i:Int)) ?_ ⟨rfl,rfl⟩
    rw [zsk hlt hn h]
    rfl
   ·show ARound ..
    exact ⟨⟨i+1,hlt,fun j hj=>by
     by_cases e:j=i
     ·subst e;exact h
     ·exact hn j (by omega)⟩,by show l.length - (i+1) < l.length - i;omega,[],.cons _ _ _ .same (.cons _ _ _ .same (.cons _ _ _ .same (.cons _ _ _ (.int_eq (zad (i:=i) (by unfold zD;omega))) .nil))),.nil,rfl⟩
  ·have hge:i=l.length:=by simp at h;omega
   show ARet ..
   refine zaR (x:=-1) ?_ ⟨rfl,rfl⟩
   rw [zsR fun x hx=>?_]
   ·rfl
   ·obtain ⟨j,hj,e⟩:=List.mem_iff_getElem.1 hx
    have:=hn j (by omega)
    rw [show l.getD j default=x from by rw [List.getD_eq_getElem?_getD,List.getElem?_eq_getElem hj,e];rfl] at this
    exact this
theorem zvs (p : Thread → Bool) (l : List Thread) : decide (zke (l.findIdx? p) ≥ 0) = l.any p := by
  cases h : l.findIdx? p with
  | none =>
    rw [List.findIdx?_eq_none_iff] at h
    symm
    show l.any p = decide ((-1 : Int) ≥ 0)
    rw [show decide ((-1 : Int) ≥ 0) = false by decide, List.any_eq_false]
    intro x hx
    rw [h x hx]
    decide
  | some i =>
    rw [List.findIdx?_eq_some_iff_getElem] at h
    obtain ⟨h1, h2, _⟩ := h
    symm
    rw [List.any_eq_true.2 ⟨_, List.getElem_mem h1, h2⟩]
    show true = decide ((i : Int) ≥ 0)
    rw [decide_eq_true (by omega)]
theorem zfq (l:List Thread) (g:Nat) (cs:List DV) (p:Thread→Bool) (hp:∀ x∈l,Spec X g [] (x.tv :: zcE cs) (Ret [] (.bo (p x)))) :
  Spec X 71 [] [.c (.d (.sl .thread l)),.c (.d (.fn g [] cs))] (Ret [] (.bo (l.any p))):=by
 refine zd X_ok Tryz.f71 (by kernel_rfl) (by kernel_rfl) (by kernel_rfl) fun hb _=>⟨rfl,?_⟩
 show ACall ..
 refine za (zfy l g cs p hp) rfl ?_
 show ARet ..
 refine zw (x:=decide (zke (l.findIdx? p)≥0)) (zvs p l) ⟨rfl,rfl⟩
theorem zq2 (c:Col) (t:Thread):Spec X 204 [] (t.tv :: zcE [.rp c.enc]) (Ret [] (.bo (bif t.live then !zal c t else false))):=by
 refine zd X_ok Tryz.f204 (by kernel_rfl) (by kernel_rfl) (by kernel_rfl) fun hb _=>⟨rfl,?_⟩
 show AIf (t.live=true∧True) _ _
 by_cases hl:t.live=true
 ·refine ⟨fun _=>?_,fun h=>absurd ⟨hl,trivial⟩ h⟩
  show ACall ..
  refine za (zgf c t) rfl ?_
  show ARet ..
  refine zw (x:=!zal c t) ?_ ⟨rfl,rfl⟩
  rw [hl]
  rfl
 ·refine ⟨fun h=>absurd h.1 hl,fun _=>?_⟩
  show AOb ..
  refine ⟨by simpa using hl,?_⟩
  show ARet ..
  refine zw (x:=false) ?_ ⟨rfl,rfl⟩
  rw [show t.live=false by simpa using hl]
  rfl
theorem ztP (c:Col) (l:List Thread):(!l.any fun t=>bif t.live then !zal c t else false)=zjc c l:=by
 unfold zjc
 rw [List.not_any_eq_all_not]
 congr 1
 funext t
 cases t.live <;> simp
theorem zsW (c:Col) (l:List Thread):Spec X 160 [] [c.tv,.c (.d (.sl .thread l))] (Ret [] (.bo (zjc c l))):=by
 refine zd X_ok Tryz.f160 (by kernel_rfl) (by kernel_rfl) (by kernel_rfl) fun hb hH=>⟨rfl,?_⟩
 show ACall ..
 refine za (zfq l 204 [.rp c.enc] (fun t=>bif t.live then !zal c t else false) (fun x _=>zq2 c x)) rfl ?_
 show ARet ..
 refine zw (x:=!l.any fun t=>bif t.live then !zal c t else false) (ztP c l) ⟨rfl,rfl⟩
theorem zhO (t:Thread):Spec X 167 [] (t.tv :: zcE []) (Ret [] (.bo t.live)):=by
 refine zd X_ok Tryz.f167 (by kernel_rfl) (by kernel_rfl) (by kernel_rfl) fun hb _=>⟨rfl,?_⟩
 show ARet ..
 exact zi rfl ⟨rfl,rfl⟩
def Col.zero:Col:=⟨0,0,false,[],false,0,0,0,0,false⟩
def zio (t:Thread) (e s:Int):Thread:={ t with live:=true,r0:=0,r1:=0,r2:=0,r3:=0,epoch:=e,stage:=s,root:=0,pc:=0,x:=0,y:=0 }
theorem zja {c:Col} {t:Thread} {l:List Thread} (h:l.findIdx? (·.live)=none):beginT c t l=zio t (if c.phase=0 then 0 else c.epoch) (zcm c.phase):=by
 unfold beginT
 have:l.find? (·.live)=none:=by rw [List.find?_eq_none];rw [List.findIdx?_eq_none_iff] at h;intro x hx;rw [h x hx];decide
 rw [this]
 rfl
theorem ziX {c:Col} {t:Thread} {l:List Thread} {i:Nat} (h:l.findIdx? (·.live)=some i):i < l.length∧(l.getD i default).live=true∧(∀ j,j < i→(l.getD j default).live=false)∧beginT c t l={ zio t (l.getD i default).epoch (l.getD i default).stage with r0:=(l.getD i default).r0 }:=by
 rw [List.findIdx?_eq_some_iff_getElem] at h
 obtain ⟨h1,h2,h3⟩:=h
 have hg:l.getD i default=l[i]:=by rw [List.getD_eq_getElem?_getD,List.getElem?_eq_getElem h1];rfl
 refine ⟨h1,by rw [hg];exact h2,fun j hj=>?_,?_⟩
 ·have:=h3 j hj
  rw [List.getD_eq_getElem?_getD,List.getElem?_eq_getElem (by omega)]
  simpa using this
 ·unfold beginT
  have:l.find? (·.live)=some l[i]:=by
   rw [List.find?_eq_some_iff_getElem]
   exact ⟨h2,i,h1,rfl,fun j hj=>by simpa using h3 j hj⟩
  rw [this,hg]
  rfl
end Go.Abs
namespace Go.Abs
open Go.Proofs Go.Proofs.YtlankjlnnimdoaaGreatDoor
set_option maxRecDepth 8000
end Go.Abs
