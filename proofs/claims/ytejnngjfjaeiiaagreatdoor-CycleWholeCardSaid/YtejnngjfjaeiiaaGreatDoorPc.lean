/- Walks and plain laws: WLists1, WRAll, WHeap4, WCards, WShade, WSame07, WShadeK, WBegins, WDrop, WNext, WTraceK, WCards2. -/
import Derived.Test.YtejnngjfjaeiiaaGreatDoorPa
import Derived.Test.YtejnngjfjaeiiaaGreatDoorAbsBase1
import Derived.Test.YtejnngjfjaeiiaaGreatDoorPb
set_option linter.all false
set_option linter.unusedVariables false
set_option linter.unusedSimpArgs false
namespace Go.Abs
open Go.Proofs Go.Proofs.YtejnngjfjaeiiaaGreatDoor
set_option maxRecDepth 8000
abbrev nilT:TV:=.c (.d (.lit (.slice none 0 0)))
theorem Grow_nil:Spec X 162 [] [nilT,.int 0] (Ret [] nilT):=by
 refine spec_go X_ok Tryz.f162 (by kernel_rfl) (by kernel_rfl) (by kernel_rfl) fun hb hH=>⟨rfl,?_⟩
 show ABr _ _ _
 refine ⟨fun h=>absurd h (by decide),fun _=>?_⟩
 show ABr _ _ _
 refine ⟨fun h=>absurd h (by decide),fun _=>?_⟩
 show ARet _ _ _
 exact ret_d rfl ⟨rfl,rfl⟩
theorem Grow_some (n:Nat) (h0:0 < n) (h1:n≤most):Spec X 162 [] [nilT,.int n] (Ret [(0,.data .int (List.replicate n (0:Int)))] (.c (.view 0 0 0))):=by
 refine spec_go X_ok Tryz.f162 (by kernel_rfl) (by kernel_rfl) (by kernel_rfl) fun hb hH=>⟨rfl,?_⟩
 unfold most at h1
 have hw:IntKind.i64.wrap ((n:Int) - IntKind.i64.wrap (0 - 0))=(n:Int):=by
  have:IntKind.i64.wrap ((0:Int) - 0)=0:=by decide
  rw [this,wrap64 (by omega) (by omega)];omega
 show ABr (decide ((n:Int) < 0)) _ _
 refine ⟨fun h=>absurd h (by simp),fun _=>?_⟩
 show ABr (decide (IntKind.i64.wrap ((n:Int) - IntKind.i64.wrap (0 - 0)) > 0)) _ _
 refine ⟨fun _=>?_,fun h=>absurd h (by rw [hw];simp;omega)⟩
 show AOb _ _
 refine ⟨by decide,?_⟩
 show AOb (0≤IntKind.i64.wrap ((n:Int) - IntKind.i64.wrap (0 - 0))∧IntKind.i64.wrap ((n:Int) - IntKind.i64.wrap (0 - 0))≤(most:Int)) _
 refine ⟨by rw [hw];unfold most;omega,?_⟩
 show AOb ((0:Int)≤0∧(0:Int)≤((List.replicate (IntKind.i64.wrap ((n:Int) - IntKind.i64.wrap (0 - 0))).toNat (0:Int)).length:Int)) _
 refine ⟨by omega,?_⟩
 show ARet _ _ _
 refine ⟨[(608,0)],[(0,.data .int (List.replicate n (0:Int)))],[.c (.view 0 0 0)],.cons _ _ _ _ (.c _ _ (.view _ _ _ _ rfl)) .nil,.old 0 608 _ _ _ rfl rfl (.data_eq ?_) .nil,rfl,rfl,rfl⟩
 rw [hw]
 rfl
theorem Concat3_spec (a b c:List Int) (h:a.length+b.length+c.length≤most):Spec X 111 [] [.c (.d (.sl .ints [a,b,c]))] (Ret [(0,.data .int (a ++ b ++ c))] (.c (.own 0))):=by
 refine spec_go X_ok Tryz.f111 (by kernel_rfl) (by kernel_rfl) (by kernel_rfl) fun hb hH=>⟨rfl,?_⟩
 have hm:a.length+b.length+c.length≤68719476736:=h
 have w1:IntKind.i64.wrap ((0:Int)+a.length)=(a.length:Int):=by rw [wrap64 (by omega) (by omega)];omega
 have w2:IntKind.i64.wrap ((a.length:Int)+b.length)=((a.length+b.length:Nat):Int):=by rw [wrap64 (by omega) (by omega)];omega
 have w3:IntKind.i64.wrap (((a.length+b.length:Nat):Int)+c.length)=((a.length+b.length+c.length:Nat):Int):=by rw [wrap64 (by omega) (by omega)];omega
 have x2:IntKind.i64.wrap (IntKind.i64.wrap ((0:Int)+a.length)+b.length)=((a.length+b.length:Nat):Int):=by rw [w1,w2]
 have x3:IntKind.i64.wrap (IntKind.i64.wrap (IntKind.i64.wrap ((0:Int)+a.length)+b.length)+c.length)=((a.length+b.length+c.length:Nat):Int):=by rw [x2,w3]
 show ∃ n,_
 refine ⟨4,.next ?_⟩
 show ABr (decide ((0:Int) < 3)) _ _
 refine ⟨fun _=>?_,fun h=>absurd h (by decide)⟩
 show AOb ((0:Int)≤0∧(0:Int) < 3) _
 refine ⟨by decide,?_⟩
 show ABr (decide (IntKind.i64.wrap ((0:Int)+a.length) < 0)) _ _
 refine ⟨fun h=>absurd h (by rw [w1];simp;try omega),fun _=>?_⟩
 show ALoop _ _ _ _
 refine .next ?_
 show ABr (decide ((1:Int) < 3)) _ _
 refine ⟨fun _=>?_,fun h=>absurd h (by decide)⟩
 show AOb ((0:Int)≤1∧(1:Int) < 3) _
 refine ⟨by decide,?_⟩
 show ABr (decide (IntKind.i64.wrap (IntKind.i64.wrap ((0:Int)+a.length)+b.length) < 0)) _ _
 refine ⟨fun h=>absurd h (by rw [x2];simp;try omega),fun _=>?_⟩
 show ALoop _ _ _ _
 refine .next ?_
 show ABr (decide ((2:Int) < 3)) _ _
 refine ⟨fun _=>?_,fun h=>absurd h (by decide)⟩
 show AOb ((0:Int)≤2∧(2:Int) < 3) _
 refine ⟨by decide,?_⟩
 show ABr (decide (IntKind.i64.wrap (IntKind.i64.wrap (IntKind.i64.wrap ((0:Int)+a.length)+b.length)+c.length) < 0)) _ _
 refine ⟨fun h=>absurd h (by rw [x3];simp;try omega),fun _=>?_⟩
 show ALoop _ _ _ _
 refine .next ?_
 show ABr (decide ((3:Int) < 3)) _ _
 refine ⟨fun h=>absurd h (by decide),fun _=>?_⟩
 show ACall _ _ [nilT,.int (IntKind.i64.wrap (IntKind.i64.wrap (IntKind.i64.wrap ((0:Int)+a.length)+b.length)+c.length))] _ _ _
 rw [x3]
 by_cases h0:a.length+b.length+c.length=0
 ·have ea:a=[]:=List.eq_nil_of_length_eq_zero (by omega)
  have eb:b=[]:=List.eq_nil_of_length_eq_zero (by omega)
  have ec:c=[]:=List.eq_nil_of_length_eq_zero (by omega)
  subst ea eb ec
  refine call_ret Grow_nil rfl ?_
  show ∃ n,_
  refine ⟨4,.next ?_⟩
  show ABr (decide ((0:Int) < 3)) _ _
  refine ⟨fun _=>?_,fun h=>absurd h (by decide)⟩
  show AOb ((0:Int)≤0∧(0:Int) < 3) _
  refine ⟨by decide,?_⟩
  show AOb _ _
  refine ⟨Nat.zero_le _,?_⟩
  show ALoop _ _ _ _
  refine .next ?_
  show ABr (decide ((1:Int) < 3)) _ _
  refine ⟨fun _=>?_,fun h=>absurd h (by decide)⟩
  show AOb ((0:Int)≤1∧(1:Int) < 3) _
  refine ⟨by decide,?_⟩
  show AOb _ _
  refine ⟨Nat.zero_le _,?_⟩
  show ALoop _ _ _ _
  refine .next ?_
  show ABr (decide ((2:Int) < 3)) _ _
  refine ⟨fun _=>?_,fun h=>absurd h (by decide)⟩
  show AOb ((0:Int)≤2∧(2:Int) < 3) _
  refine ⟨by decide,?_⟩
  show AOb _ _
  refine ⟨Nat.zero_le _,?_⟩
  show ALoop _ _ _ _
  refine .next ?_
  show ABr (decide ((3:Int) < 3)) _ _
  refine ⟨fun h=>absurd h (by decide),fun _=>?_⟩
  show ARet _ _ _
  exact ⟨[(_,0)],[(0,.data .int [])],[.c (.own 0)],.cons _ _ _ _ (.c _ _ (.own1 _ _)) .nil,.old 0 _ _ _ _ rfl rfl (.data_eq rfl) .nil,rfl,rfl,rfl⟩
 ·refine .mk _ (Grow_some _ (by omega) h) ?_
  rintro H r ⟨rfl,rfl⟩ _ _
  refine ⟨.inl rfl,?_⟩
  show ∃ n,_
  refine ⟨4,.next ?_⟩
  show ABr (decide ((0:Int) < 3)) _ _
  refine ⟨fun _=>?_,fun h=>absurd h (by decide)⟩
  show AOb ((0:Int)≤0∧(0:Int) < 3) _
  refine ⟨by decide,?_⟩
  show AOb (0+a.length≤most) _
  refine ⟨by omega,?_⟩
  show ALoop _ _ _ _
  refine .next ?_
  show ABr (decide ((1:Int) < 3)) _ _
  refine ⟨fun _=>?_,fun h=>absurd h (by decide)⟩
  show AOb ((0:Int)≤1∧(1:Int) < 3) _
  refine ⟨by decide,?_⟩
  show AOb (((List.replicate (a.length+b.length+c.length) (0:Int)).take 0 ++ a).length+b.length≤most) _
  refine ⟨by simp;omega,?_⟩
  show ALoop _ _ _ _
  refine .next ?_
  show ABr (decide ((2:Int) < 3)) _ _
  refine ⟨fun _=>?_,fun h=>absurd h (by decide)⟩
  show AOb ((0:Int)≤2∧(2:Int) < 3) _
  refine ⟨by decide,?_⟩
  show AOb (((List.replicate (a.length+b.length+c.length) (0:Int)).take 0 ++ a ++ b).length+c.length≤most) _
  refine ⟨by simp;omega,?_⟩
  show ALoop _ _ _ _
  refine .next ?_
  show ABr (decide ((3:Int) < 3)) _ _
  refine ⟨fun h=>absurd h (by decide),fun _=>?_⟩
  show ARet _ _ _
  refine ⟨[(_,0)],[(0,.data .int (a ++ b ++ c))],[.c (.own 0)],.cons _ _ _ _ (.c _ _ (.own1 _ _)) .nil,.old 0 _ _ _ _ rfl rfl (.data_eq ?_) .nil,rfl,rfl,rfl⟩
  show (List.replicate (a.length+b.length+c.length) (0:Int)).take 0 ++ a ++ b ++ c=_
  simp
end Go.Abs
namespace Go.Abs
open Go.Proofs Go.Proofs.YtejnngjfjaeiiaaGreatDoor
set_option maxRecDepth 8000
structure Rev (l m:List Int) (o n i:Nat):Prop where
 len:m.length=l.length
 out:∀ p,(p < o∨o+n≤p)→at0 m p=at0 l p
 ins:∀ q,q < n→at0 m (o+q)=if q < i∨n≤q+i then at0 l (o+(n - 1 - q)) else at0 l (o+q)
theorem Rev.step {l m:List Int} {o n i:Nat} (h:Rev l m o n i) (hi:2 * i+1 < n) (hn:o+n≤l.length):Rev l (swp m (o+i) (o+(n - 1 - i))) o n (i+1):=by
 have hl:=h.len
 refine ⟨(swp_len _ _ _).trans hl,fun p hp=>?_,fun q hq=>?_⟩
 ·rw [swp_at m _ _ _ (by omega) (by omega),if_neg (by omega),if_neg (by omega)]
  exact h.out p hp
 ·rw [swp_at m _ _ _ (by omega) (by omega)]
  by_cases h1:q=n - 1 - i
  ·subst h1
   rw [if_pos rfl,h.ins i (by omega),if_neg (by omega),if_pos (by omega)]
   congr 1
   omega
  ·rw [if_neg (by omega)]
   by_cases h2:q=i
   ·subst h2
    rw [if_pos rfl,h.ins (n - 1 - q) (by omega),if_neg (by omega),if_pos (by omega)]
   ·rw [if_neg (by omega),h.ins q hq]
    by_cases h3:q < i∨n≤q+i
    ·rw [if_pos h3,if_pos (by omega)]
    ·rw [if_neg h3,if_neg (by omega)]
theorem at0_ext {l m:List Int} (hl:l.length=m.length) (h:∀ p,p < l.length→at0 l p=at0 m p):l=m:=by
 refine List.ext_getElem hl fun p h1 h2=>?_
 have:=h p h1
 unfold at0 at this
 rw [List.getD_eq_getElem?_getD,List.getD_eq_getElem?_getD,List.getElem?_eq_getElem h1,List.getElem?_eq_getElem h2] at this
 exact this
def revd (l:List Int) (o n:Nat):List Int:=l.take o ++ ((l.drop o).take n).reverse ++ l.drop (o+n)
theorem revd_len (l:List Int) (o n:Nat) (hn:o+n≤l.length):(revd l o n).length=l.length:=by
 unfold revd
 simp
 omega
theorem at0_app (l m:List Int) (p:Nat):at0 (l ++ m) p=if p < l.length then at0 l p else at0 m (p - l.length):=by
 unfold at0
 rw [List.getD_eq_getElem?_getD,List.getD_eq_getElem?_getD,List.getD_eq_getElem?_getD,List.getElem?_append]
 split <;> rfl
theorem at0_drop (l:List Int) (o p:Nat):at0 (l.drop o) p=at0 l (o+p):=by
 unfold at0
 rw [List.getD_eq_getElem?_getD,List.getD_eq_getElem?_getD,List.getElem?_drop]
theorem at0_take (l:List Int) (o p:Nat) (h:p < o):at0 (l.take o) p=at0 l p:=by
 unfold at0
 rw [List.getD_eq_getElem?_getD,List.getD_eq_getElem?_getD,List.getElem?_take,if_pos h]
theorem at0_rev (l:List Int) (p:Nat) (h:p < l.length):at0 l.reverse p=at0 l (l.length - 1 - p):=by
 unfold at0
 rw [List.getD_eq_getElem?_getD,List.getD_eq_getElem?_getD,List.getElem?_reverse h]
theorem Rev.done {l m:List Int} {o n i:Nat} (h:Rev l m o n i) (hi:n≤2 * i+1) (hn:o+n≤l.length):m=revd l o n:=by
 refine at0_ext (h.len.trans (revd_len l o n hn).symm) fun p hp=>?_
 unfold revd
 rw [at0_app,at0_app]
 have e1:(l.take o).length=o:=by simp;omega
 have e2:((l.drop o).take n).reverse.length=n:=by simp;omega
 rw [List.length_append,e1,e2]
 by_cases h1:p < o
 ·rw [if_pos (by omega),if_pos h1,at0_take _ _ _ h1]
  exact h.out p (.inl h1)
 ·by_cases h2:p < o+n
  ·rw [if_pos h2,if_neg h1,at0_rev _ _ (by simp;omega),at0_take _ _ _ (by simp;omega),at0_drop]
   have e3:((l.drop o).take n).length=n:=by simp;omega
   rw [e3]
   have:=h.ins (p - o) (by omega)
   rw [show o+(p - o)=p by omega] at this
   rw [this]
   by_cases h3:p - o < i∨n≤p - o+i
   ·rw [if_pos h3]
   ·rw [if_neg h3]
    congr 1
    omega
  ·rw [if_neg h2,at0_drop,h.out p (.inr (by omega))]
   congr 1
   omega
def noAdj (l:List Int) (n:Nat):Prop:=∀ i,i+1 < n→at0 l i≠at0 l (i+1)
def CompQ (l:List Int):Heap→TV→Prop:=fun H r=>∃ m n,H=hp16 m∧r = .c (.view 16 0 n)∧n≤m.length∧m.length=l.length∧(n=l.length↔noAdj l l.length)
theorem Compact_spec (l:List Int):Spec X 109 (hp16 l) [.c (.own 16)] (CompQ l):=by
 refine spec_go X_ok Tryz.f109 (by kernel_rfl) (by kernel_rfl) (by kernel_rfl) fun hb hH=>⟨rfl,?_⟩
 have hmax:l.length≤maxN:=hH 16 .int l rfl
 unfold maxN at hmax
 show ABr (decide ((l.length:Int) < 2)) _ _
 refine ⟨fun h=>?_,fun h=>?_⟩
 ·have hlt:l.length < 2:=by simp at h;omega
  show ARet _ _ _
  exact ⟨[(16,16)],hp16 l,[.c (.view 16 0 l.length)],.cons _ _ _ _ (.c _ _ (.whole _ _ _ rfl rfl)) .nil,.old 16 16 _ _ _ rfl rfl (.data_eq rfl) .nil,rfl,l,l.length,rfl,rfl,Nat.le_refl _,rfl,⟨fun _ i hi=>by omega,fun _=>rfl⟩⟩
 ·have hge:2≤l.length:=by simp at h;omega
  show ∃ n,_
  refine ⟨0,ALoop.inv (ι:={k:Nat // 1≤k∧k≤l.length∧noAdj l k}) (fun k=>⟨[(0,.c (.own 16)),(3,.int k.1)],[(16,.data .int l)],64⟩) (fun k=>l.length - k.1) ⟨1,Nat.le_refl _,by omega,fun i hi=>by omega⟩ ?_ ?_⟩
  ·exact ⟨[(16,16)],.cons _ _ _ (.c _ _ (.own _ _ rfl)) (.cons _ _ _ .same .nil),.old 16 16 _ _ _ rfl rfl (.data_eq rfl) .nil,rfl⟩
  ·rintro ⟨k,hk1,hkl,hno⟩
   show ABr (decide ((k:Int) < (l.length:Int))) _ _
   refine ⟨fun h=>?_,fun h=>?_⟩
   ·have hlt:k < l.length:=by simpa using h
    have hw:IntKind.i64.wrap ((k:Int) - 1)=((k - 1:Nat):Int):=wrapM (by unfold maxN;omega) (by omega)
    show AOb ((0:Int)≤(k:Int)∧(k:Int) < (l.length:Int)) _
    refine ⟨by omega,?_⟩
    show AOb ((k:Int).toNat < l.length) _
    refine ⟨by omega,?_⟩
    show AOb ((0:Int)≤IntKind.i64.wrap ((k:Int) - 1)∧IntKind.i64.wrap ((k:Int) - 1) < (l.length:Int)) _
    refine ⟨by rw [hw];omega,?_⟩
    show AOb ((IntKind.i64.wrap ((k:Int) - 1)).toNat < l.length) _
    refine ⟨by rw [hw];omega,?_⟩
    have e1:(IntKind.i64.wrap ((k:Int) - 1)).toNat=k - 1:=by rw [hw];omega
    show ABr (decide (at0 l k=at0 l (IntKind.i64.wrap ((k:Int) - 1)).toNat)) _ _
    rw [e1]
    refine ⟨fun h2=>?_,fun h2=>?_⟩
    ·have hdup:at0 l k=at0 l (k - 1):=by simpa using h2
     show AOb ((0:Int)≤(k:Int)∧(k:Int)≤(l.length:Int)) _
     refine ⟨by omega,?_⟩
     show ∃ n,_
     refine ⟨0,ALoop.inv (ι:={p:List Int × Nat × Nat // p.1.length=l.length∧k≤p.2.1∧p.2.1 < k+p.2.2∧1≤p.2.2∧k+p.2.2≤l.length}) (fun p=>⟨[(0,.c (.own 16)),(3,.int p.1.2.1),(4,.c (.view 16 k ((l.length:Int) - (k:Int)).toNat)),(5,.int p.1.2.2)],[(16,.data .int p.1.1)],64⟩) (fun p=>l.length - p.1.2.2) ⟨(l,k,1),rfl,Nat.le_refl _,by show k < k+1;omega,Nat.le_refl _,by show k+1≤l.length;omega⟩ ?_ ?_⟩
     ·exact ⟨[(16,16)],.cons _ _ _ (.c _ _ (.own _ _ rfl)) (.cons _ _ _ .same (.cons _ _ _ (.c _ _ (.view _ _ _ _ rfl)) (.cons _ _ _ .same .nil))),.old 16 16 _ _ _ rfl rfl (.data_eq rfl) .nil,rfl⟩
     ·rintro ⟨⟨m,q,k2⟩,hm,hq,hq2,hk2,hkk⟩
      have hm:m.length=l.length:=hm
      have hq:k≤q:=hq
      have hq2:q < k+k2:=hq2
      have hk2:1≤k2:=hk2
      have hkk:k+k2≤l.length:=hkk
      show ABr (decide ((k2:Int) < ((((l.length:Int) - (k:Int)).toNat:Nat):Int))) _ _
      refine ⟨fun h=>?_,fun h=>?_⟩
      ·have hlt2:k+k2 < l.length:=by simp at h;omega
       have hw2:IntKind.i64.wrap ((k2:Int) - 1)=((k2 - 1:Nat):Int):=wrapM (by unfold maxN;omega) (by omega)
       show AOb ((0:Int)≤(k2:Int)∧(k2:Int) < ((((l.length:Int) - (k:Int)).toNat:Nat):Int)) _
       refine ⟨by omega,?_⟩
       show AOb (k+(k2:Int).toNat < m.length) _
       refine ⟨by omega,?_⟩
       show AOb ((0:Int)≤IntKind.i64.wrap ((k2:Int) - 1)∧IntKind.i64.wrap ((k2:Int) - 1) < ((((l.length:Int) - (k:Int)).toNat:Nat):Int)) _
       refine ⟨by rw [hw2];omega,?_⟩
       show AOb (k+(IntKind.i64.wrap ((k2:Int) - 1)).toNat < m.length) _
       refine ⟨by rw [hw2];omega,?_⟩
       show ABr _ _ _
       refine ⟨fun _=>?_,fun _=>?_⟩
       ·show AOb ((0:Int)≤(k2:Int)∧(k2:Int) < ((((l.length:Int) - (k:Int)).toNat:Nat):Int)) _
        refine ⟨by omega,?_⟩
        show AOb (k+(k2:Int).toNat < m.length) _
        refine ⟨by omega,?_⟩
        show AOb ((0:Int)≤(q:Int)∧(q:Int) < (m.length:Int)) _
        refine ⟨by omega,?_⟩
        show AOb ((q:Int).toNat < m.length) _
        refine ⟨by omega,?_⟩
        show ARound _ _ _ _
        exact ⟨⟨(m.set q (at0 m (k+k2)),q+1,k2+1),by show (m.set q _).length=_;rw [List.length_set];exact hm,by show k≤q+1;omega,by show q+1 < k+(k2+1);omega,by show 1≤k2+1;omega,by show k+(k2+1)≤l.length;omega⟩,by show l.length - (k2+1) < l.length - k2;omega,[(16,16)],.cons _ _ _ (.c _ _ (.own _ _ rfl)) (.cons _ _ _ (.int_eq (wrapP (i:=q) (by unfold maxN;omega))) (.cons _ _ _ (.c _ _ (.view _ _ _ _ rfl)) (.cons _ _ _ (.int_eq (wrapP (i:=k2) (by unfold maxN;omega))) .nil))),.old 16 16 _ _ _ rfl rfl (.data_eq rfl) .nil,rfl⟩
       ·show ARound _ _ _ _
        exact ⟨⟨(m,q,k2+1),hm,hq,by show q < k+(k2+1);omega,by show 1≤k2+1;omega,by show k+(k2+1)≤l.length;omega⟩,by show l.length - (k2+1) < l.length - k2;omega,[(16,16)],.cons _ _ _ (.c _ _ (.own _ _ rfl)) (.cons _ _ _ .same (.cons _ _ _ (.c _ _ (.view _ _ _ _ rfl)) (.cons _ _ _ (.int_eq (wrapP (i:=k2) (by unfold maxN;omega))) .nil))),.old 16 16 _ _ _ rfl rfl (.data_eq rfl) .nil,rfl⟩
      ·show AOb ((0:Int)≤(q:Int)∧(q:Int)≤(m.length:Int)) _
       refine ⟨by omega,?_⟩
       show AOb ((0:Int)≤(q:Int)∧(q:Int)≤((splice m (q:Int).toNat (List.replicate ((m.length:Int) - (q:Int)).toNat (0:Int))).length:Int)) _
       have hspl:(splice m (q:Int).toNat (List.replicate ((m.length:Int) - (q:Int)).toNat (0:Int))).length=m.length:=by unfold splice;simp;omega
       refine ⟨by rw [hspl];omega,?_⟩
       show ARet _ _ _
       refine ⟨[(16,16)],hp16 (splice m (q:Int).toNat (List.replicate ((m.length:Int) - (q:Int)).toNat (0:Int))),[.c (.view 16 0 q)],.cons _ _ _ _ ?_ .nil,.old 16 16 _ _ _ rfl rfl (.data_eq rfl) .nil,rfl,_,q,rfl,rfl,by rw [hspl];omega,by rw [hspl];exact hm,⟨fun h=>by omega,fun h=>absurd (h (k - 1) (by omega)) (by rw [show k - 1+1=k by omega];exact fun hc=>hc hdup.symm)⟩⟩
       have e:(((some (q:Int)).getD ((List.length (α:=Int) (splice m (q:Int).toNat (List.replicate ((m.length:Int) - (q:Int)).toNat (0:Int))):Nat):Int)) - (none.getD 0:Int)).toNat=q:=by simp
       show LeT _ _ _ (.c (.view 16 _ (((some (q:Int)).getD ((List.length (α:=Int) (splice m (q:Int).toNat (List.replicate ((m.length:Int) - (q:Int)).toNat (0:Int))):Nat):Int)) - (none.getD 0:Int)).toNat)) _
       rw [e]
       exact .c _ _ (.view _ _ _ _ rfl)
    ·have hne:at0 l k≠at0 l (k - 1):=by simpa using h2
     show ARound _ _ _ _
     exact ⟨⟨k+1,by omega,by omega,fun i hi=>by
      by_cases hik:i+1=k
      ·subst hik;exact fun hc=>hne (by simpa using hc.symm)
      ·exact hno i (by omega)⟩,by show l.length - (k+1) < l.length - k;omega,[(16,16)],.cons _ _ _ (.c _ _ (.own _ _ rfl)) (.cons _ _ _ (.int_eq (wrapP (i:=k) (by unfold maxN;omega))) .nil),.old 16 16 _ _ _ rfl rfl (.data_eq rfl) .nil,rfl⟩
   ·have hk:k=l.length:=by simp at h;omega
    show ARet _ _ _
    exact ⟨[(16,16)],hp16 l,[.c (.view 16 0 l.length)],.cons _ _ _ _ (.c _ _ (.whole _ _ _ rfl rfl)) .nil,.old 16 16 _ _ _ rfl rfl (.data_eq rfl) .nil,rfl,l,l.length,rfl,rfl,Nat.le_refl _,rfl,⟨fun _=>hk ▸ hno,fun _=>rfl⟩⟩
end Go.Abs
namespace Go.Abs
open Go.Proofs Go.Proofs.YtejnngjfjaeiiaaGreatDoor
set_option maxRecDepth 8000
theorem is_spec (c:Int):Spec X 271 [] [.int c] (Ret [] (.bo (cond (decide (c≥0)) (decide (c < 3)) false))):=by
 refine spec_go X_ok Tryz.f271 (by kernel_rfl) (by kernel_rfl) (by kernel_rfl) fun _ _=>⟨rfl,?_⟩
 show ARet _ _ _
 exact ret_bo rfl ⟨rfl,rfl⟩
theorem copied (l:List Int):splice (List.replicate ((l.length:Int)).toNat (0:Int)) 0 (l.take (List.replicate ((l.length:Int)).toNat (0:Int)).length)=l:=by
 unfold splice
 simp
theorem lown_spec (l:Lists) (h:l.ok):Spec X 272 [] [l.tv] (Ret [(0,.data .int l.l0),(1,.data .int l.l1),(2,.data .int l.l2)] (.agg [.own 0,.own 1,.own 2])):=by
 refine spec_go X_ok Tryz.f272 (by kernel_rfl) (by kernel_rfl) (by kernel_rfl) fun _ _=>⟨rfl,?_⟩
 show ∃ n,_
 refine ⟨4,.next ?_⟩
 show ABr _ _ _
 refine ⟨fun _=>?_,fun hb=>absurd hb (by decide)⟩
 show AOb _ _
 refine ⟨by decide,?_⟩
 show AOb ((0:Int)≤(l.l0.length:Int)∧(l.l0.length:Int)≤(l.l0.length:Int)∧(l.l0.length:Int)≤(most:Int)) _
 refine ⟨by have:=h.1;omega,?_⟩
 show AOb _ _
 refine ⟨by decide,?_⟩
 show AOb _ _
 refine ⟨by decide,?_⟩
 show AOb _ _
 refine ⟨by decide,?_⟩
 show ALoop _ _ _ _
 refine .next ?_
 show ABr _ _ _
 refine ⟨fun _=>?_,fun hb=>absurd hb (by decide)⟩
 show AOb _ _
 refine ⟨by decide,?_⟩
 show AOb ((0:Int)≤(l.l1.length:Int)∧(l.l1.length:Int)≤(l.l1.length:Int)∧(l.l1.length:Int)≤(most:Int)) _
 refine ⟨by have:=h.2.1;omega,?_⟩
 show AOb _ _
 refine ⟨by decide,?_⟩
 show AOb _ _
 refine ⟨by decide,?_⟩
 show AOb _ _
 refine ⟨by decide,?_⟩
 show ALoop _ _ _ _
 refine .next ?_
 show ABr _ _ _
 refine ⟨fun _=>?_,fun hb=>absurd hb (by decide)⟩
 show AOb _ _
 refine ⟨by decide,?_⟩
 show AOb ((0:Int)≤(l.l2.length:Int)∧(l.l2.length:Int)≤(l.l2.length:Int)∧(l.l2.length:Int)≤(most:Int)) _
 refine ⟨by have:=h.2.2;omega,?_⟩
 show AOb _ _
 refine ⟨by decide,?_⟩
 show AOb _ _
 refine ⟨by decide,?_⟩
 show AOb _ _
 refine ⟨by decide,?_⟩
 show ALoop _ _ _ _
 refine .next ?_
 show ABr _ _ _
 refine ⟨fun hb=>absurd hb (by decide),fun _=>?_⟩
 show ARet _ _ _
 exact ⟨[(416,0),(1056,1),(1696,2)],[(0,.data .int l.l0),(1,.data .int l.l1),(2,.data .int l.l2)],[.agg [.own 0,.own 1,.own 2]],.cons _ _ _ _ (.agg _ _ (.cons _ _ _ _ (.own _ _ rfl) (.cons _ _ _ _ (.own _ _ rfl) (.cons _ _ _ _ (.own _ _ rfl) .nil)))) .nil,
  .old 0 416 _ _ _ rfl rfl (.data_eq (copied l.l0)) (.old 1 1056 _ _ _ rfl rfl (.data_eq (copied l.l1)) (.old 2 1696 _ _ _ rfl rfl (.data_eq (copied l.l2)) .nil)),rfl,rfl,rfl⟩
def Lists.at_ (l:Lists) (c:Int):List Int:=if c=0 then l.l0 else if c=1 then l.l1 else l.l2
def Lists.set_ (l:Lists) (c:Int) (x:List Int):Lists:=if c=0 then { l with l0:=x } else if c=1 then { l with l1:=x } else { l with l2:=x }
def Lists.zero:Lists:=⟨[],[],[]⟩
theorem Push_spec (l:Lists) (c:Int) (a:List Int) (h:0≤c∧c≤2) (hok:l.ok) (hm:(l.at_ c).length+a.length≤most):Spec X 260 [] [l.tv,.int c,.c (.d (.sl .int a))] (Ret [] (.tup [(l.set_ c (l.at_ c ++ a)).tv,.int 0])):=by
 refine spec_go X_ok Tryz.f260 (by kernel_rfl) (by kernel_rfl) (by kernel_rfl) fun _ _=>⟨rfl,?_⟩
 have hc:c=0∨c=1∨c=2:=by omega
 rcases hc with rfl | rfl | rfl
 ·show ACall _ _ _ _ _ _
  refine call_ret (is_spec 0) rfl ?_
  show ABr _ _ _
  refine ⟨fun hb=>absurd hb (by decide),fun _=>?_⟩
  show ACall _ _ _ _ _ _
  refine .mk _ (lown_spec l hok) ?_
  rintro H r ⟨rfl,rfl⟩ _ _
  refine ⟨.inl rfl,?_⟩
  show AOb ((0:Int)≤0∧(0:Int) < 3) _
  refine ⟨by decide,?_⟩
  show AOb (l.l0.length+a.length≤most) _
  refine ⟨hm,?_⟩
  show AOb ((0:Int)≤0∧(0:Int) < 3) _
  refine ⟨by decide,?_⟩
  show ARet _ _ _
  exact ⟨[],[],[(l.set_ 0 (l.at_ 0 ++ a)).tv,.int 0],.cons _ _ _ _ (.agg _ _ (.cons _ _ _ _ (.frz _ _ rfl) (.cons _ _ _ _ (.frz _ _ rfl) (.cons _ _ _ _ (.frz _ _ rfl) .nil)))) (.cons _ _ _ _ .same .nil),.nil,rfl,rfl,rfl⟩
 ·show ACall _ _ _ _ _ _
  refine call_ret (is_spec 1) rfl ?_
  show ABr _ _ _
  refine ⟨fun hb=>absurd hb (by decide),fun _=>?_⟩
  show ACall _ _ _ _ _ _
  refine .mk _ (lown_spec l hok) ?_
  rintro H r ⟨rfl,rfl⟩ _ _
  refine ⟨.inl rfl,?_⟩
  show AOb ((0:Int)≤1∧(1:Int) < 3) _
  refine ⟨by decide,?_⟩
  show AOb (l.l1.length+a.length≤most) _
  refine ⟨hm,?_⟩
  show AOb ((0:Int)≤1∧(1:Int) < 3) _
  refine ⟨by decide,?_⟩
  show ARet _ _ _
  exact ⟨[],[],[(l.set_ 1 (l.at_ 1 ++ a)).tv,.int 0],.cons _ _ _ _ (.agg _ _ (.cons _ _ _ _ (.frz _ _ rfl) (.cons _ _ _ _ (.frz _ _ rfl) (.cons _ _ _ _ (.frz _ _ rfl) .nil)))) (.cons _ _ _ _ .same .nil),.nil,rfl,rfl,rfl⟩
 ·show ACall _ _ _ _ _ _
  refine call_ret (is_spec 2) rfl ?_
  show ABr _ _ _
  refine ⟨fun hb=>absurd hb (by decide),fun _=>?_⟩
  show ACall _ _ _ _ _ _
  refine .mk _ (lown_spec l hok) ?_
  rintro H r ⟨rfl,rfl⟩ _ _
  refine ⟨.inl rfl,?_⟩
  show AOb ((0:Int)≤2∧(2:Int) < 3) _
  refine ⟨by decide,?_⟩
  show AOb (l.l2.length+a.length≤most) _
  refine ⟨hm,?_⟩
  show AOb ((0:Int)≤2∧(2:Int) < 3) _
  refine ⟨by decide,?_⟩
  show ARet _ _ _
  exact ⟨[],[],[(l.set_ 2 (l.at_ 2 ++ a)).tv,.int 0],.cons _ _ _ _ (.agg _ _ (.cons _ _ _ _ (.frz _ _ rfl) (.cons _ _ _ _ (.frz _ _ rfl) (.cons _ _ _ _ (.frz _ _ rfl) .nil)))) (.cons _ _ _ _ .same .nil),.nil,rfl,rfl,rfl⟩
end Go.Abs
namespace Go.Abs
open Go.Proofs Go.Proofs.YtejnngjfjaeiiaaGreatDoor
set_option maxRecDepth 8000
theorem LeC.frz_eq {ρ:List (Nat × Nat)} {h h' : Heap} {x:CV} {k:EK} {l m:List k.T} (h1:lendC (fun b=>(nmOf ρ b).isNone) h 8 x=some (.sl k l)) (e:l=m):LeC ρ h h' x (.d (.sl k m)):=by subst e;exact .frz _ _ h1
end Go.Abs
namespace Go.Abs
open Go.Proofs Go.Proofs.YtejnngjfjaeiiaaGreatDoor
set_option maxRecDepth 8000
def Lists.flat (l:Lists):List Int:=l.l0 ++ l.l1 ++ l.l2
def flats (L:List Lists):List Int:=L.flatMap Lists.flat
theorem flats_take (L:List Lists) (i:Nat) (h:i < L.length):flats (L.take (i+1))=flats (L.take i) ++ (L.getD i default).flat:=by
 unfold flats
 rw [List.take_add_one,List.getElem?_eq_getElem h,List.flatMap_append,List.getD_eq_getElem?_getD,List.getElem?_eq_getElem h]
 simp
theorem flats_le (L:List Lists) (i:Nat):(flats (L.take i)).length≤(flats L).length:=by
 have:flats L=flats (L.take i) ++ flats (L.drop i):=by
  unfold flats
  rw [← List.flatMap_append,List.take_append_drop]
 rw [this,List.length_append]
 omega
theorem All_spec (L:List Lists) (h:(flats L).length≤most):Spec X 64 [] [.c (.d (.sl .lists L))] (Ret [(0,.data .int (flats L))] (.c (.own 0))):=by
 refine spec_go X_ok Tryz.f64 (by kernel_rfl) (by kernel_rfl) (by kernel_rfl) fun hb _=>⟨rfl,?_⟩
 have hmax:L.length≤maxN:=(hb (.c (.d (.sl .lists L))) (by simp)).1
 show ∃ n,_
 refine ⟨0,ALoop.inv (ι:={i:Nat // i≤L.length}) (fun i=>⟨[(3,.c (.own 1)),(6,.c (.d (.sl .lists L))),(7,.int L.length),(8,.int i.1)],[(1,.data .int (flats (L.take i.1)))],32⟩) (fun i=>L.length - i.1) ⟨0,Nat.zero_le _⟩ ?_ ?_⟩
 ·exact ⟨[],.cons _ _ _ (.c _ _ (.nilown 1 .int rfl rfl)) (.cons _ _ _ .same (.cons _ _ _ .same (.cons _ _ _ .same .nil))),.new 1 .int _ rfl .nil,rfl⟩
 ·rintro ⟨i,hi⟩
  show ABr (decide ((i:Int) < (L.length:Int))) _ _
  refine ⟨fun h2=>?_,fun h2=>?_⟩
  ·have hlt:i < L.length:=by simpa using h2
   have hstep:=flats_take L i hlt
   have hle:=flats_le L (i+1)
   have hlen:(flats (L.take (i+1))).length=(flats (L.take i)).length+(L.getD i default).flat.length:=by rw [hstep,List.length_append]
   have hfl:(L.getD i default).flat.length=(L.getD i default).l0.length+(L.getD i default).l1.length+(L.getD i default).l2.length:=by simp [Lists.flat];omega
   show AOb ((0:Int)≤(i:Int)∧(i:Int) < (L.length:Int)) _
   refine ⟨by omega,?_⟩
   show ACall _ _ _ _ _ _
   refine .mk _ (Concat3_spec (L.getD i default).l0 (L.getD i default).l1 (L.getD i default).l2 (by omega)) ?_
   rintro H r ⟨rfl,rfl⟩ _ _
   refine ⟨.inr ⟨rfl,rfl⟩,?_⟩
   show AOb ((flats (L.take i)).length+(L.getD i default).flat.length≤most) _
   refine ⟨by omega,?_⟩
   show ARound _ _ _ _
   exact ⟨⟨i+1,hlt⟩,Nat.sub_lt_sub_left hlt (Nat.lt_succ_self i),[(_,1)],.cons _ _ _ (.c _ _ (.own1 _ _)) (.cons _ _ _ .same (.cons _ _ _ .same (.cons _ _ _ (.int_eq (wrapP (i:=i) (by omega))) .nil))),.old 1 _ _ _ _ rfl rfl (.data_eq hstep.symm) .nil,rfl⟩
  ·have hge:i=L.length:=by simp at h2;omega
   show ARet _ _ _
   refine ⟨[(_,0)],[(0,.data .int (flats L))],[.c (.own 0)],.cons _ _ _ _ (.c _ _ (.own1 _ _)) .nil,.old 0 _ _ _ _ rfl rfl (.data_eq ?_) .nil,rfl,rfl,rfl⟩
   show flats (L.take i)=flats L
   rw [hge,List.take_length]
theorem at0_get {l:List Int} {i:Nat} (h:i < l.length):at0 l i=l[i]:=by
 unfold at0
 rw [List.getD_eq_getElem?_getD,List.getElem?_eq_getElem h]
 rfl
theorem adj_nodup {l:List Int} (hs:Sorted l 0 l.length):noAdj l l.length↔l.Nodup:=by
 unfold List.Nodup
 rw [List.pairwise_iff_getElem]
 constructor
 ·intro h i j hi hj hij
  have h1:=h i (by omega)
  have h2:=hs i (i+1) (Nat.zero_le _) (by omega) (by omega)
  have h3:at0 l (i+1)≤at0 l j:=by
   by_cases e:i+1=j
   ·subst e;exact Int.le_refl _
   ·exact hs (i+1) j (Nat.zero_le _) (by omega) hj
  rw [← at0_get hi,← at0_get hj]
  omega
 ·intro h i hi
  rw [at0_get (by omega),at0_get hi]
  exact h i (i+1) (by omega) hi (by omega)
theorem Apart_of (L:List Lists) (h:(flats L).length≤most) (hs:Spec X 108 (hp16 (flats L)) [.c (.own 16)] (SortQ (flats L) 0 (flats L).length)):Spec X 58 [] [.c (.d (.sl .lists L))] (Ret [] (.bo (decide (flats L).Nodup))):=by
 refine spec_go X_ok Tryz.f58 (by kernel_rfl) (by kernel_rfl) (by kernel_rfl) fun hb _=>⟨rfl,?_⟩
 show ACall _ _ _ _ _ _
 refine .mk _ (All_spec L h) ?_
 rintro H r ⟨rfl,rfl⟩ _ _
 refine ⟨.inl rfl,?_⟩
 show ACall _ _ _ _ _ _
 refine .hand [(_,16)] (hp16 (flats L)) [.c (.own 16)] _ (.cons _ _ _ _ (.c _ _ (.own1 _ _)) .nil) (.old 16 _ _ _ _ rfl rfl (.data_eq rfl) .nil) rfl hs ?_
 rintro H r ⟨rfl,l',rfl,hsr,hso⟩ _ _
 refine ⟨rfl,.inr ⟨rfl,rfl⟩,?_⟩
 show ACall _ _ _ _ _ _
 refine .hand [(_,16)] (hp16 l') [.c (.own 16)] _ (.cons _ _ _ _ (.c _ _ (.own1 _ _)) .nil) (.old 16 _ _ _ _ rfl rfl (.data_eq rfl) .nil) rfl (Compact_spec l') ?_
 rintro H r ⟨m,n,rfl,rfl,hnm,hml,hiff⟩ _ _
 refine ⟨rfl,.inr ⟨rfl,rfl⟩,?_⟩
 show ARet _ _ _
 refine ret_bo (x:=decide ((n:Int)=((flats L).length:Int))) ?_ ⟨rfl,rfl⟩
 have hl:l'.length=(flats L).length:=hsr.len
 rw [← hl] at hso
 have key:n=l'.length↔(flats L).Nodup:=hiff.trans ((adj_nodup hso).trans hsr.perm.nodup_iff)
 rw [decide_eq_decide,← key]
 omega
end Go.Abs
namespace Go.Abs
open Go.Proofs Go.Proofs.YtejnngjfjaeiiaaGreatDoor
set_option maxRecDepth 8000
theorem ArgLe.lists {cs:List CV} {t:Lists} (h:EK.fit .lists cs=some t):ArgLe (.agg cs) t.tv:=.fit .lists cs t h
end Go.Abs
namespace Go.Abs
open Go.Proofs Go.Proofs.YtejnngjfjaeiiaaGreatDoor
set_option maxRecDepth 8000
theorem Apart_spec (L:List Lists) (h:(flats L).length≤most):Spec X 58 [] [.c (.d (.sl .lists L))] (Ret [] (.bo (decide (flats L).Nodup))):=
 Apart_of L h (Sort_spec (flats L))
end Go.Abs
namespace Go.Abs
open Go.Proofs Go.Proofs.YtejnngjfjaeiiaaGreatDoor
set_option maxRecDepth 8000
def shapedH (h:Hp):Bool:=mayW h.w && (mayP h.pages && decide (h.w.length=16 * h.pages.length∧h.cards.length=2 * h.pages.length))
def wordAt (h:Hp) (a:Int):Int:=at0 h.w (a - 16).toNat
def pageAt (h:Hp) (a:Int):Page:=h.pages.getD (a / 16 - 1).toNat default
def fitsB (p:Page) (n:Int):Bool:=bif decide (p.kind=2) then decide (runE n=0∧runOf n=p.arg) else decide (clsE n=0∧clsOf n=p.arg)
def freeB (h:Hp) (c a:Int):Bool:=decide (0 < roomAt h.pages a∧pageAt h a=⟨1,c⟩∧wordAt h a=0)
def listedB (h:Hp) (l:Lists):Bool:=l.l0.all (freeB h 0) && (l.l1.all (freeB h 1) && l.l2.all (freeB h 2))
def cellB (h:Hp) (a:Int):Bool:=isHd (wordAt h a) && (bif (unp (wordAt h a)).used then fitsB (pageAt h a) (unp (wordAt h a)).n else decide ((pageAt h a).kind=1))
abbrev lsts (h:Hp) (cs:List Lists):List Lists:=h.free :: cs
def mayH (h:Hp) (cs:List Lists):Bool:=shapedH h && ((h.free :: cs).all (listedB h) && ((cellStarts h.pages).all (cellB h) && decide (flats (h.free :: cs)).Nodup))
def wholeH (h:Hp) (cs:List Lists):Bool:=mayH h cs && (cellStarts h.pages).all fun a=>wordAt h a != 0 || (flats (h.free :: cs)).contains a
def adr (h:Hp) (a:Int):Prop:=16≤a∧a < 16 * ((h.pages.length:Int)+1)
theorem shapedH_of {h:Hp} (hs:shapedH h=true):mayW h.w=true∧mayP h.pages=true∧h.w.length=16 * h.pages.length∧h.cards.length=2 * h.pages.length∧1≤h.pages.length∧h.pages.length≤64:=by
 unfold shapedH at hs
 simp only [Bool.and_eq_true,decide_eq_true_eq] at hs
 have:=(mayP_ok hs.2.1).2
 exact ⟨hs.1,hs.2.1,hs.2.2.1,hs.2.2.2,this.1,this.2⟩
theorem room_adr {h:Hp} {a:Int} (hr:roomAt h.pages a≠0):adr h a:=by
 obtain ⟨_,i,hi⟩:=cellOf_mem (roomAt_pos hr)
 have h1:=hi.lo
 have h2:=hi.hi
 have h3:=hi.lt
 simp only at h1 h2
 exact ⟨by omega,by omega⟩
theorem wlen {l:List Int} (h:l.length≤maxN):(l.length:Int) < 140737488355329:=by unfold maxN at h;omega
theorem word_spec (h:Hp) (a:Int) (hs:h.w.length=16 * h.pages.length) (ha:adr h a):Spec X 52 [] [h.tv,.int a] (Ret [] (.int (wordAt h a))):=by
 refine spec_go X_ok Tryz.f52 (by kernel_rfl) (by kernel_rfl) (by kernel_rfl) fun hb hH=>⟨rfl,?_⟩
 obtain ⟨h1,h2⟩:=ha
 have hla:h.w.length≤maxN:=((hb (h.tv) (by simp)) (.d (.sl .int h.w)) (by simp [Hp.enc])).1
 have hl:=wlen hla
 have ew:IntKind.i64.wrap (a - 16)=a - 16:=wrap64 (by omega) (by omega)
 show AOb ((0:Int)≤IntKind.i64.wrap (a - 16)∧IntKind.i64.wrap (a - 16) < (h.w.length:Int)) _
 rw [ew]
 refine ⟨by omega,?_⟩
 show ARet _ _ _
 exact ret_d rfl ⟨rfl,rfl⟩
theorem page_spec (h:Hp) (a:Int) (hs:h.w.length=16 * h.pages.length) (ha:adr h a):Spec X 53 [] [h.tv,.int a] (Ret [] (.dagg (EK.enc .page (pageAt h a)))):=by
 refine spec_go X_ok Tryz.f53 (by kernel_rfl) (by kernel_rfl) (by kernel_rfl) fun hb hH=>⟨rfl,?_⟩
 obtain ⟨h1,h2⟩:=ha
 have hla:h.w.length≤maxN:=((hb (h.tv) (by simp)) (.d (.sl .int h.w)) (by simp [Hp.enc])).1
 have hl:=wlen hla
 have e1:tdv a 16=a / 16:=tdv_eq (by omega) (by omega) (by omega)
 have ew:IntKind.i64.wrap (tdv a 16 - 1)=a / 16 - 1:=by rw [e1];exact wrap64 (by omega) (by omega)
 show AOb _ _
 refine ⟨by decide,?_⟩
 show AOb ((0:Int)≤IntKind.i64.wrap (tdv a 16 - 1)∧IntKind.i64.wrap (tdv a 16 - 1) < (h.pages.length:Int)) _
 refine ⟨by rw [ew];omega,?_⟩
 show ARet _ _ [.agg [.d (DV.int (h.pages.getD (IntKind.i64.wrap (tdv a 16 - 1)).toNat default).kind),.d (DV.int (h.pages.getD (IntKind.i64.wrap (tdv a 16 - 1)).toNat default).arg)]]
 rw [ew]
 exact ret_d rfl ⟨rfl,rfl⟩
theorem decide_and' {p q:Prop} [Decidable p] [Decidable q]:decide (p∧q)=(decide p && decide q):=by simp
theorem len8 (n:Nat) (h:n≤maxN):tdv (n:Int) 8=((n / 8:Nat):Int):=len_quo n 8 h
theorem shaped_spec (h : Hp) : Spec X 49 [] [h.tv] (Ret [] (.bo (shapedH h))) := by
  refine spec_go X_ok Tryz.f49 (by kernel_rfl) (by kernel_rfl) (by kernel_rfl) fun hb hH => ⟨rfl, ?_⟩
  have hla : h.w.length ≤ maxN := ((hb (h.tv) (by simp)) (.d (.sl .int h.w)) (by simp [Hp.enc])).1
  have hlp : h.pages.length ≤ maxN := ((hb (h.tv) (by simp)) (.d (.sl .page h.pages)) (by simp [Hp.enc])).1
  have hlc : h.cards.length ≤ maxN := ((hb (h.tv) (by simp)) (.d (.sl .bool h.cards)) (by simp [Hp.enc])).1
  have w1 := wlen hla
  have w2 : IntKind.i64.wrap (16 * (h.pages.length : Int)) = 16 * (h.pages.length : Int) := wrap64 (by omega) (by unfold maxN at hlp; omega)
  have w3 := len8 h.w.length hla
  show ACall _ _ _ _ _ _
  refine call_ret (aMay_spec h.w) rfl ?_
  show AIf (mayW h.w = true ∧ True) _ _
  refine ⟨fun h1 => ?_, fun h1 => ?_⟩
  · show ACall _ _ _ _ _ _
    refine call_ret (pMay_spec h.pages) rfl ?_
    show AOb _ _
    refine ⟨by simp, ?_⟩
    show ARet _ _ _
    refine ret_bo (x := bif (bif mayP h.pages then (h.w.length : Int) == IntKind.i64.wrap (16 * (h.pages.length : Int)) else false) then (h.cards.length : Int) == tdv (h.w.length : Int) 8 else false) ?_ ⟨rfl, rfl⟩
    rw [w2, w3]
    unfold shapedH
    rw [h1.1]
    have hw := of_decide_eq_true h1.1
    cases mayP h.pages with
    | false => rfl
    | true =>
      simp only [cond_true, Bool.true_and, decide_and']
      by_cases e1 : h.w.length = 16 * h.pages.length
      · have e2 : ((h.w.length : Int) == 16 * (h.pages.length : Int)) = true := by rw [beq_iff_eq]; omega
        rw [e2, decide_eq_true e1]
        by_cases e3 : h.cards.length = 2 * h.pages.length
        · rw [decide_eq_true e3]; simp; omega
        · rw [decide_eq_false e3]; simp; omega
      · have e2 : ((h.w.length : Int) == 16 * (h.pages.length : Int)) = false := by rw [beq_eq_false_iff_ne]; omega
        rw [e2, decide_eq_false e1]
        rfl
  · have h1 : mayW h.w = false := Bool.eq_false_iff.2 fun h' => h1 ⟨h', trivial⟩
    show AOb (mayW h.w = false) _
    refine ⟨h1, ?_⟩
    show AOb _ _
    refine ⟨by simp, ?_⟩
    show ARet _ _ _
    refine ret_bo (x := false) ?_ ⟨rfl, rfl⟩
    unfold shapedH
    rw [h1]
    rfl
theorem fits_spec (p:Page) (n:Int) (hn:n≤9223372036854775807):Spec X 54 [] [.dagg (EK.enc .page p),.int n] (Ret [] (.bo (fitsB p n))):=by
 refine spec_go X_ok Tryz.f54 (by kernel_rfl) (by kernel_rfl) (by kernel_rfl) fun hb hH=>⟨rfl,?_⟩
 unfold fitsB
 show ABr (decide (p.kind=2)) _ _
 refine ⟨fun h=>?_,fun h=>?_⟩
 ·rw [h]
  show ACall _ _ _ _ _ _
  refine call_ret (cRun_spec n hn) rfl ?_
  show ARet _ _ _
  refine ret_bo (x:=bif decide (runE n=0) then decide (runOf n=p.arg) else false) ?_ ⟨rfl,rfl⟩
  rw [cond_true,decide_and']
  cases decide (runE n=0) <;> rfl
 ·rw [h]
  show ACall _ _ _ _ _ _
  refine call_ret (cOf_spec n) rfl ?_
  show ARet _ _ _
  refine ret_bo (x:=bif decide (clsE n=0) then decide (clsOf n=p.arg) else false) ?_ ⟨rfl,rfl⟩
  rw [cond_false,decide_and']
  cases decide (clsE n=0) <;> rfl
theorem page_eq (p:Page) (k c:Int):(p.kind == k && (p.arg == c && true))=decide (p=⟨k,c⟩):=by
 obtain ⟨a,b⟩:=p
 by_cases h1:a=k <;> by_cases h2:b=c <;> simp [h1,h2]
theorem listed1_spec (h:Hp) (c a:Int) (hs:shapedH h=true):Spec X 104 [] (.int a :: capT [.rp h.enc,.rp [DV.int c]]) (Ret [] (.bo (freeB h c a))):=by
 obtain ⟨_,_,hsl,_⟩:=shapedH_of hs
 refine spec_go X_ok Tryz.f104 (by kernel_rfl) (by kernel_rfl) (by kernel_rfl) fun hb hH=>⟨rfl,?_⟩
 show ADCall _ _ _ _ _ _
 refine .mk _ _ (Room_spec h.pages a) rfl ?_
 unfold freeB
 show ABr (decide (roomAt h.pages a > 0)) _ _
 refine ⟨fun h1=>?_,fun h1=>?_⟩
 ·have h1:0 < roomAt h.pages a:=of_decide_eq_true h1
  have had:=room_adr (h:=h) (a:=a) (by omega)
  show ADCall _ _ _ _ _ _
  refine .mk _ _ (page_spec h a hsl had) rfl ?_
  show ABr ((pageAt h a).kind == 1 && ((pageAt h a).arg == c && true)) _ _
  rw [page_eq]
  refine ⟨fun h2=>?_,fun h2=>?_⟩
  ·show ADCall _ _ _ _ _ _
   refine .mk _ _ (word_spec h a hsl had) rfl ?_
   show ARet _ _ _
   refine ret_bo (x:=wordAt h a == 0) ?_ ⟨rfl,rfl⟩
   have h2:=of_decide_eq_true h2
   by_cases h3:wordAt h a=0 <;> simp [h1,h2,h3]
  ·show ARet _ _ _
   refine ret_bo (x:=false) ?_ ⟨rfl,rfl⟩
   have h2:=of_decide_eq_false h2
   simp [h2]
 ·have h1:=of_decide_eq_false h1
  show ABr _ _ _
  refine ⟨fun h=>absurd h (by decide),fun _=>?_⟩
  show ARet _ _ _
  refine ret_bo (x:=false) ?_ ⟨rfl,rfl⟩
  have h2:¬ 0 < roomAt h.pages a:=by omega
  simp [h2]
theorem listed_spec (g:Hp) (l:Lists) (hs:shapedH g=true):Spec X 55 [] [g.tv,l.tv] (Ret [] (.bo (listedB g l))):=by
 refine spec_go X_ok Tryz.f55 (by kernel_rfl) (by kernel_rfl) (by kernel_rfl) fun hb hH=>⟨rfl,?_⟩
 unfold listedB
 show ∃ n,_
 refine ⟨4,?_⟩
 show ALoop _ _ _ _
 refine .next ?_
 show ABr _ _ _
 refine ⟨fun _=>?_,fun h=>absurd h (by decide)⟩
 show AOb _ _
 refine ⟨by decide,?_⟩
 show ACall _ _ _ _ _ _
 refine call_ret (every_spec l.l0 104 [.rp g.enc,.rp [DV.int 0]] (freeB g 0) (fun x _=>listed1_spec g 0 x hs)) rfl ?_
 show ABr (!l.l0.all (freeB g 0)) _ _
 refine ⟨fun h=>?_,fun h=>?_⟩
 ·have h0:l.l0.all (freeB g 0)=false:=by simpa using h
  rw [h0]
  show ARet _ _ _
  exact ret_d rfl ⟨rfl,rfl⟩
 have h0:l.l0.all (freeB g 0)=true:=by simpa using h
 rw [h0]
 show ALoop _ _ _ _
 refine .next ?_
 show ABr _ _ _
 refine ⟨fun _=>?_,fun h=>absurd h (by decide)⟩
 show AOb _ _
 refine ⟨by decide,?_⟩
 show ACall _ _ _ _ _ _
 refine call_ret (every_spec l.l1 104 [.rp g.enc,.rp [DV.int 1]] (freeB g 1) (fun x _=>listed1_spec g 1 x hs)) rfl ?_
 show ABr (!l.l1.all (freeB g 1)) _ _
 refine ⟨fun h=>?_,fun h=>?_⟩
 ·have h1:l.l1.all (freeB g 1)=false:=by simpa using h
  rw [h1]
  show ARet _ _ _
  exact ret_d rfl ⟨rfl,rfl⟩
 have h1:l.l1.all (freeB g 1)=true:=by simpa using h
 rw [h1]
 show ALoop _ _ _ _
 refine .next ?_
 show ABr _ _ _
 refine ⟨fun _=>?_,fun h=>absurd h (by decide)⟩
 show AOb _ _
 refine ⟨by decide,?_⟩
 show ACall _ _ _ _ _ _
 refine call_ret (every_spec l.l2 104 [.rp g.enc,.rp [DV.int 2]] (freeB g 2) (fun x _=>listed1_spec g 2 x hs)) rfl ?_
 show ABr (!l.l2.all (freeB g 2)) _ _
 refine ⟨fun h=>?_,fun h=>?_⟩
 ·have h2:l.l2.all (freeB g 2)=false:=by simpa using h
  rw [h2]
  show ARet _ _ _
  exact ret_d rfl ⟨rfl,rfl⟩
 have h2:l.l2.all (freeB g 2)=true:=by simpa using h
 rw [h2]
 show ALoop _ _ _ _
 refine .next ?_
 show ABr _ _ _
 refine ⟨fun h=>absurd h (by decide),fun _=>?_⟩
 show ARet _ _ _
 exact ret_d rfl ⟨rfl,rfl⟩
theorem unp_n (w:Int):(unp w).n≤63:=by
 unfold unp
 split
 ·rename_i h;exact (may_range h).1.2
 ·decide
theorem cell1_spec (h : Hp) (a : Int) (hs : shapedH h = true) (ha : adr h a) : Spec X 50 [] (.int a :: capT [.rp h.enc]) (Ret [] (.bo (cellB h a))) := by
  obtain ⟨_, _, hsl, _⟩ := shapedH_of hs
  refine spec_go X_ok Tryz.f50 (by kernel_rfl) (by kernel_rfl) (by kernel_rfl) fun hb hH => ⟨rfl, ?_⟩
  show ACall _ _ _ _ _ _
  refine call_ret (word_spec h a hsl ha) rfl ?_
  show ACall _ _ _ _ _ _
  refine call_ret (hUnpack_spec (wordAt h a)) rfl ?_
  show ACall _ _ _ _ _ _
  refine call_ret (page_spec h a hsl ha) rfl ?_
  have hn := unp_n (wordAt h a)
  unfold cellB
  generalize hu : unp (wordAt h a) = u at hn
  show AIf (u.used = true ∧ (bif !u.used then (pageAt h a).kind == 1 else false) = false ∧ isHd (wordAt h a) = true ∧ True) _ _
  refine ⟨fun h1 => ?_, fun h1 => ?_⟩
  · show ACall _ _ _ _ _ _
    refine call_ret (fits_spec (pageAt h a) u.n (by omega)) rfl ?_
    show ARet _ _ _
    refine ret_bo (x := bif isHd (wordAt h a) then (bif (bif !u.used then (pageAt h a).kind == 1 else false) then true else fitsB (pageAt h a) u.n) else false) ?_ ⟨rfl, rfl⟩
    rw [h1.2.2.1, h1.1]
    rfl
  · show AOb _ _
    refine ⟨by exact fun ⟨g1, g2, _⟩ => Bool.eq_false_iff.2 fun g3 => h1 ⟨g3, g1, g2, trivial⟩, ?_⟩
    show ARet _ _ _
    refine ret_bo (x := bif isHd (wordAt h a) then (bif (bif !u.used then (pageAt h a).kind == 1 else false) then true else false) else false) ?_ ⟨rfl, rfl⟩
    cases hi : isHd (wordAt h a) with
    | false => rfl
    | true =>
      cases hud : u.used with
      | true => exact absurd ⟨hud, by rw [hud]; rfl, hi, trivial⟩ h1
      | false =>
        simp only [cond_true, cond_false, Bool.true_and, Bool.not_false]
        by_cases hk : (pageAt h a).kind = 1 <;> simp [hk]
theorem start_adr {h:Hp} {a:Int} (ha:a∈cellStarts h.pages):adr h a:=room_adr (mem_starts.1 ha)
theorem hHMay_spec (g:Hp) (cs:List Lists) (hm:(flats (lsts g cs)).length≤most) (hc:cs.length < most):Spec X 16 [] [g.tv,.c (.d (.sl .lists cs))] (Ret [] (.bo (mayH g cs))):=by
 refine spec_go X_ok Tryz.f16 (by kernel_rfl) (by kernel_rfl) (by kernel_rfl) fun hb hH=>⟨rfl,?_⟩
 unfold mayH
 show ACall _ _ _ _ _ _
 refine call_ret (shaped_spec g) rfl ?_
 show ABr (!shapedH g) _ _
 refine ⟨fun h=>?_,fun h=>?_⟩
 ·have hs:shapedH g=false:=by simpa using h
  rw [hs]
  show ARet _ _ _
  exact ret_d rfl ⟨rfl,rfl⟩
 have hs:shapedH g=true:=by simpa using h
 rw [hs]
 show AOb (1+cs.length≤most) _
 refine ⟨by omega,?_⟩
 obtain ⟨L,hL⟩:∃ L:List Lists,L=g.free :: cs:=⟨_,rfl⟩
 have hlen:L.length≤most:=by rw [hL,List.length_cons];omega
 unfold most at hlen
 show ∃ n,_
 refine ⟨0,ALoop.inv (ι:={i:Nat // i≤L.length∧L.all (listedB g)=(L.drop i).all (listedB g)}) (fun i=>⟨[(2,.c (.d (.rp g.enc))),(5,.c (.d (.fn 50 [] [.rp g.enc]))),(6,.c (.d (.sl .lists L))),(18,.c (.d (.sl .lists L))),(19,.int L.length),(20,.int i.1)],[],32⟩) (fun i=>L.length - i.1) ⟨0,Nat.zero_le _,by rw [List.drop_zero]⟩ ?_ ?_⟩
 ·exact ⟨[],.cons _ _ _ (.c _ _ (.frz _ _ rfl)) (.cons _ _ _ (.c _ _ (.frz _ _ rfl)) (.cons _ _ _ (.frz rfl hL.symm) (.cons _ _ _ (.frz rfl hL.symm) (.cons _ _ _ (.int_eq (by rw [hL];rfl)) (.cons _ _ _ .same .nil))))),.nil,rfl⟩
 ·rintro ⟨i,hi,he⟩
  have hLe:(g.free :: cs).all (listedB g)=L.all (listedB g):=by rw [hL]
  show ABr (decide ((i:Int) < (L.length:Int))) _ _
  refine ⟨fun h=>?_,fun h=>?_⟩
  ·have hlt:i < L.length:=by simpa using h
   have he:L.all (listedB g)=(listedB g (L.getD i default) && (L.drop (i+1)).all (listedB g)):=by
    rw [he,List.drop_eq_getElem_cons hlt,List.all_cons,List.getD_eq_getElem?_getD,List.getElem?_eq_getElem hlt]
    rfl
   show AOb ((0:Int)≤(i:Int)∧(i:Int) < (L.length:Int)) _
   refine ⟨by omega,?_⟩
   show ACall _ _ _ _ _ _
   refine call_ret (listed_spec g (L.getD i default) hs) rfl ?_
   show ABr (!listedB g (L.getD i default)) _ _
   refine ⟨fun h=>?_,fun h=>?_⟩
   ·have hf:listedB g (L.getD i default)=false:=by simpa using h
    show ARet _ _ _
    refine ret_bo (x:=false) ?_ ⟨rfl,rfl⟩
    rw [hLe,he,hf]
    rfl
   ·have hf:listedB g (L.getD i default)=true:=by simpa using h
    show ARound _ _ _ _
    exact ⟨⟨i+1,hlt,by rw [he,hf,Bool.true_and]⟩,by show L.length - (i+1) < L.length - i;omega,[],.cons _ _ _ .same (.cons _ _ _ .same (.cons _ _ _ .same (.cons _ _ _ .same (.cons _ _ _ .same (.cons _ _ _ (.int_eq (wrapP (i:=i) (by unfold maxN;omega))) .nil))))),.nil,rfl⟩
  ·have hge:i=L.length:=by simp at h;omega
   rw [hge,List.drop_length] at he
   have hall:(g.free :: cs).all (listedB g)=true:=by rw [hLe,he];rfl
   show ACall _ _ _ _ _ _
   refine .mk _ (cAll_spec g.pages) fun H r ⟨eH,er⟩ _ _=>⟨.inl rfl,?_⟩
   subst eH er
   show ACall _ _ _ _ _ _
   refine call_ret (every_spec (cellStarts g.pages) 50 [.rp g.enc] (cellB g) (fun x hx=>cell1_spec g x hs (start_adr hx))) rfl ?_
   show AIf ((cellStarts g.pages).all (cellB g)=true∧True) _ _
   refine ⟨fun h1=>?_,fun h1=>?_⟩
   ·show ACall _ _ _ _ _ _
    refine call_ret (Apart_spec L (by rw [hL];exact hm)) rfl ?_
    show ARet _ _ _
    refine ret_bo (x:=decide (flats L).Nodup) ?_ ⟨rfl,rfl⟩
    rw [hall,h1.1,hL]
    rfl
   ·have h1:(cellStarts g.pages).all (cellB g)=false:=Bool.eq_false_iff.2 fun h'=>h1 ⟨h',trivial⟩
    show AOb ((cellStarts g.pages).all (cellB g)=false) _
    refine ⟨h1,?_⟩
    show ARet _ _ _
    refine ret_bo (x:=false) ?_ ⟨rfl,rfl⟩
    rw [hall,h1]
    rfl
end Go.Abs
namespace Go.Abs
open Go.Proofs Go.Proofs.YtejnngjfjaeiiaaGreatDoor
set_option maxRecDepth 8000
def mset (l:List Int):List (Int × CV):=l.foldl (fun m k=>mput m k (.d (DV.bo true))) []
def msetB (l:List Int):List (Int × Bool):=(mset l).map fun p=>(p.1,true)
def allT (m:List (Int × CV)):Prop:=∀ p∈m,p.2 = .d (DV.bo true)
theorem mput_allT {m : List (Int × CV)} {n : Int} (h : allT m) : allT (mput m n (.d (DV.bo true))) := by
  induction m with
  | nil => intro p hp; simp [mput] at hp; rw [hp]
  | cons q r ih =>
    obtain ⟨k, y⟩ := q
    simp only [mput]
    by_cases hk : (n == k) = true
    · rw [hk]
      intro p hp
      rcases List.mem_cons.1 hp with rfl | hp
      · rfl
      · exact h p (List.mem_cons_of_mem _ hp)
    · rw [Bool.eq_false_iff.2 hk]
      intro p hp
      rcases List.mem_cons.1 hp with rfl | hp
      · exact h _ (List.mem_cons_self ..)
      · exact ih (fun p hp => h p (List.mem_cons_of_mem _ hp)) p hp
theorem mset_snoc (l:List Int) (n:Int):mset (l ++ [n])=mput (mset l) n (.d (DV.bo true)):=by unfold mset;rw [List.foldl_append];rfl
theorem mset_allT (l:List Int):allT (mset l):=by
 unfold mset
 suffices ∀ m,allT m→allT (l.foldl (fun m k=>mput m k (.d (DV.bo true))) m) from this [] (fun p hp=>by cases hp)
 induction l with
 | nil=>intro m h;exact h
 | cons x r ih=>intro m h;exact ih _ (mput_allT h)
theorem toB_allT {m : List (Int × CV)} (h : allT m) : toB m = some (m.map fun p => (p.1, true)) := by
  induction m with
  | nil => rfl
  | cons q r ih =>
    obtain ⟨k, y⟩ := q
    have hy : y = .d (DV.bo true) := h (k, y) (List.mem_cons_self ..)
    subst hy
    simp only [toB, ih (fun p hp => h p (List.mem_cons_of_mem _ hp)), List.map_cons]
    rfl
theorem toB_mset (l:List Int):toB (mset l)=some (msetB l):=toB_allT (mset_allT l)
theorem mset_isD (l:List Int):(mset l).all (fun p=>isD p.2)=true:=List.all_eq_true.2 fun p hp=>by rw [mset_allT l p hp];rfl
theorem mput_isD (l:List Int) (n:Int) (b:Bool):(mput (mset l) n (.d (DV.bo true))).all (fun p=>isD p.2)=true:=by rw [← mset_snoc];exact mset_isD _
theorem LeB.map_eq {ρ:List (Nat × Nat)} {h h' : Heap} {l m:List (Int × CV)} (e:l=m) (h1:l.all (fun p=>isD p.2)=true):LeB ρ h h' (.map l) (.map m):=by subst e;exact .map l h1
theorem mgetB_put {m : List (Int × CV)} (n a : Int) (x : CV) : mgetB ((mput m n x).map fun p => (p.1, true)) a = (a == n || mgetB (m.map fun p => (p.1, true)) a) := by
  induction m with
  | nil => simp [mput, mgetB]
  | cons q r ih =>
    obtain ⟨k, y⟩ := q
    simp only [mput]
    by_cases hk : n = k
    · subst hk
      by_cases ha : a = n <;> simp [mgetB, ha]
    · have hk' : (n == k) = false := by simp [hk]
      rw [hk']
      simp only [cond_false, List.map_cons, mgetB, ih]
      by_cases ha : a = k
      · subst ha
        simp
      · have ha' : (a == k) = false := by simp [ha]
        rw [ha']
        rfl
theorem mgetB_mset (l : List Int) (a : Int) : mgetB (msetB l) a = l.contains a := by
  unfold msetB mset
  suffices ∀ m, mgetB ((l.foldl (fun m k => mput m k (.d (DV.bo true))) m).map fun p => (p.1, true)) a = (mgetB (m.map fun p => (p.1, true)) a || l.contains a) from by
    rw [this]; simp [mgetB]
  induction l with
  | nil => intro m; simp
  | cons x r ih =>
    intro m
    rw [List.foldl_cons, ih, mgetB_put]
    rw [List.contains_cons]
    cases (a == x) <;> cases mgetB (m.map fun p => (p.1, true)) a <;> rfl
theorem ACall.mk' {f:Nat} {args args' : List TV} {h:Heap} {base:Nat} {k:TV→Heap→Prop} {r:TV} (he:args.map (lendT h)=args') (hT:Spec X f [] args' (Ret [] r)) (hl:scalT 8 r=true) (hk:k (shT base 8 r) []):ACall X f args h base k:=
 call_ret (by rw [he];exact hT) (by rw [hl,Bool.or_true]) hk
theorem whole1_spec (g:Hp) (F:List Int) (a:Int) (hs:shapedH g=true) (ha:adr g a) :
  Spec X 65 [] (.int a :: capT [.rp g.enc,.rp [.mp (msetB F)]]) (Ret [] (.bo (wordAt g a != 0 || F.contains a))):=by
 obtain ⟨_,_,hsl,_⟩:=shapedH_of hs
 refine spec_go X_ok Tryz.f65 (by kernel_rfl) (by kernel_rfl) (by kernel_rfl) fun hb hH=>⟨rfl,?_⟩
 show ACall _ _ _ _ _ _
 refine call_ret (word_spec g a hsl ha) rfl ?_
 show ARet _ _ _
 refine ret_bo (x:=bif wordAt g a != 0 then true else mgetB (msetB F) a) ?_ ⟨rfl,rfl⟩
 rw [mgetB_mset]
 cases wordAt g a != 0 <;> rfl
theorem Whole_spec (g:Hp) (cs:List Lists) (hm:(flats (lsts g cs)).length≤most) (hc:cs.length < most):Spec X 23 [] [g.tv,.c (.d (.sl .lists cs))] (Ret [] (.bo (wholeH g cs))):=by
 refine spec_go X_ok Tryz.f23 (by kernel_rfl) (by kernel_rfl) (by kernel_rfl) fun hb hH=>⟨rfl,?_⟩
 unfold wholeH
 show ACall _ _ _ _ _ _
 refine call_ret (hHMay_spec g cs hm hc) rfl ?_
 show ABr (!mayH g cs) _ _
 refine ⟨fun h=>?_,fun h=>?_⟩
 ·have hs:mayH g cs=false:=by simpa using h
  rw [hs]
  show ARet _ _ _
  exact ret_d rfl ⟨rfl,rfl⟩
 have hmy:mayH g cs=true:=by simpa using h
 rw [hmy]
 have hs:shapedH g=true:=by unfold mayH at hmy;rw [Bool.and_eq_true] at hmy;exact hmy.1
 show AOb (1+cs.length≤most) _
 refine ⟨by omega,?_⟩
 show ACall _ _ _ _ _ _
 refine .mk _ (All_spec (g.free :: cs) hm) fun H r hq _ _=>?_
 obtain ⟨rfl,rfl⟩:=hq
 refine ⟨.inr ⟨rfl,rfl⟩,?_⟩
 obtain ⟨F,hF⟩:∃ F:List Int,F=flats (g.free :: cs):=⟨_,rfl⟩
 have hlen:F.length≤most:=by rw [hF];exact hm
 unfold most at hlen
 show ∃ n,_
 refine ⟨0,ALoop.inv (ι:={i:Nat // i≤F.length}) (fun i=>⟨[(2,.c (.d (.rp g.enc))),(5,.c (.ptr 1 0 0)),(18,.c (.d (.sl .int F))),(19,.int F.length),(20,.int i.1)],[(1,.vars [.own 2]),(2,.map (mset (F.take i.1)))],96⟩) (fun i=>F.length - i.1) ⟨0,Nat.zero_le _⟩ ?_ ?_⟩
 ·exact ⟨[(256,1),(224,2)],.cons _ _ _ (.c _ _ (.frz _ _ rfl)) (.cons _ _ _ (.c _ _ (.ptr _ _ _ _ rfl)) (.cons _ _ _ (.frz rfl hF.symm) (.cons _ _ _ (.int_eq (by rw [hF];rfl)) (.cons _ _ _ .same .nil)))),.old 1 256 _ _ _ rfl rfl (.vars _ _ (.cons _ _ _ _ (.own _ _ rfl) .nil)) (.old 2 224 _ _ _ rfl rfl (.map_eq (by rw [List.take_zero];rfl) rfl) .nil),rfl⟩
 ·rintro ⟨i,hi⟩
  show ABr (decide ((i:Int) < (F.length:Int))) _ _
  refine ⟨fun h=>?_,fun h=>?_⟩
  ·have hlt:i < F.length:=by simpa using h
   show AOb ((0:Int)≤(i:Int)∧(i:Int) < (F.length:Int)) _
   refine ⟨by omega,?_⟩
   show ARound _ _ _ _
   exact ⟨⟨i+1,hlt⟩,by show F.length - (i+1) < F.length - i;omega,[(1,1),(2,2)],.cons _ _ _ .same (.cons _ _ _ (.c _ _ (.ptr _ _ _ _ rfl)) (.cons _ _ _ .same (.cons _ _ _ .same (.cons _ _ _ (.int_eq (wrapP (i:=i) (by unfold maxN;omega))) .nil)))),.old 1 1 _ _ _ rfl rfl (.vars _ _ (.cons _ _ _ _ (.own _ _ rfl) .nil)) (.old 2 2 _ _ _ rfl rfl (.map_eq (l:=mput (mset (F.take i)) (F.getD (i:Int).toNat default) (.d (DV.bo true))) (by rw [take_at0 hlt,mset_snoc];rfl) (mput_isD _ _ true)) .nil),rfl⟩
  ·have hge:i=F.length:=by simp at h;omega
   subst hge
   show ACall _ _ _ _ _ _
   refine .mk _ (cAll_spec g.pages) fun H r hq _ _=>?_
   obtain ⟨rfl,rfl⟩:=hq
   refine ⟨.inl rfl,?_⟩
   have hB:=toB_mset F
   rw [List.take_length]
   show ACall _ _ _ _ _ _
   refine .mk' (args':=[.c (.d (.sl .int (cellStarts g.pages))),.c (.d (.fn 65 [] [.rp g.enc,.rp [.mp (msetB F)]]))]) ?_ (every_spec (cellStarts g.pages) 65 [.rp g.enc,.rp [.mp (msetB F)]] (fun a=>wordAt g a != 0 || F.contains a) (fun x hx=>whole1_spec g F x hs (start_adr hx))) rfl ?_
   ·show [lendT _ _,lendT [(192,.data .int (cellStarts g.pages)),(1,.vars [.own 2]),(2,.map (mset F))] (.c (.cl 65 [] [.d (.rp g.enc),.ptr 1 0 0]))]=[_,_]
    have e2:lendT [(192,.data .int (cellStarts g.pages)),(1,.vars [.own 2]),(2,.map (mset F))] (.c (.cl 65 [] [.d (.rp g.enc),.ptr 1 0 0])) = .c (.d (.fn 65 [] [.rp g.enc,.rp [.mp (msetB F)]])):=by
     simp [lendT,lendC,lendAll,hlook,hB,show Nat.beq 192 1=false from rfl,show Nat.beq 192 2=false from rfl,show Nat.beq 1 2=false from rfl,show Nat.beq 1 1=true from rfl,show Nat.beq 2 2=true from rfl]
    rw [e2]
    rfl
   ·show ARet _ _ _
    refine ret_bo (x:=(cellStarts g.pages).all fun a=>wordAt g a != 0 || F.contains a) ?_ ⟨rfl,rfl⟩
    rw [hF]
    rfl
end Go.Abs
namespace Go.Abs
open Go.Proofs Go.Proofs.YtejnngjfjaeiiaaGreatDoor
set_option maxRecDepth 8000
abbrev nilS:TV:=.lit (.slice none 0 0)
def Hp.zero:Hp:=⟨[],[],⟨[],[],[]⟩,[]⟩
def Hp.light (h:Hp):Prop:=(flats [h.free]).length≤most
def headE (h:Hp) (a:Int):Int:=bif mayH h [] then (bif decide (roomAt h.pages a=0) then 3 else (bif (unp (wordAt h a)).used then 0 else 3)) else 1
def headH (h:Hp) (a:Int):Hd:=bif decide (headE h a=0) then unp (wordAt h a) else Hd.zero
def usedH (h:Hp):List Int:=bif mayH h [] then (cellStarts h.pages).filter (fun a=>wordAt h a != 0) else []
def newH (n:Int):Hp:=bif pgN n then ⟨zer (n * 16).toNat,List.replicate n.toNat ⟨0,0⟩,⟨[],[],[]⟩,List.replicate (2 * n).toNat false⟩ else Hp.zero
theorem hHMay0_spec (g:Hp) (hl:g.light):Spec X 16 [] [g.tv,nilS] (Ret [] (.bo (mayH g []))):=
 (hHMay_spec g [] hl (by unfold most;simp)).args (.cons _ _ _ _ (.refl _) (.cons _ _ _ _ (.sl .lists [] _ rfl) .nil))
theorem mayH_shaped {h:Hp} {cs:List Lists} (hm:mayH h cs=true):shapedH h=true:=by
 unfold mayH at hm;rw [Bool.and_eq_true] at hm;exact hm.1
theorem headH_no {g:Hp} {a:Int} {e:Int} (h:headE g a=e) (he:e≠0):headH g a=Hd.zero:=by unfold headH;rw [h,decide_eq_false he];rfl
theorem headH_yes {g:Hp} {a:Int} (h:headE g a=0):headH g a=unp (wordAt g a):=by unfold headH;rw [h];rfl
theorem hHead_spec (g:Hp) (a:Int) (hl:g.light):Spec X 24 [] [g.tv,.int a] (Ret [] (.tup [(headH g a).tv,.int (headE g a)])):=by
 refine spec_go X_ok Tryz.f24 (by kernel_rfl) (by kernel_rfl) (by kernel_rfl) fun hb hH=>⟨rfl,?_⟩
 show ACall _ _ _ _ _ _
 refine call_ret (hHMay0_spec g hl) rfl ?_
 show ABr (!mayH g []) _ _
 refine ⟨fun h=>?_,fun h=>?_⟩
 ·have hm:mayH g []=false:=by simpa using h
  have hE:headE g a=1:=by unfold headE;rw [hm];rfl
  rw [headH_no hE (by decide),hE]
  show ARet _ _ _
  exact ret_d rfl ⟨rfl,rfl⟩
 have hm:mayH g []=true:=by simpa using h
 have hs:=mayH_shaped hm
 obtain ⟨_,_,hsl,_⟩:=shapedH_of hs
 show ACall _ _ _ _ _ _
 refine call_ret (Room_spec g.pages a) rfl ?_
 show ABr (decide (roomAt g.pages a=0)) _ _
 refine ⟨fun h=>?_,fun h=>?_⟩
 ·have hE:headE g a=3:=by unfold headE;rw [hm,h];rfl
  rw [headH_no hE (by decide),hE]
  show ARet _ _ _
  exact ret_d rfl ⟨rfl,rfl⟩
 ·have had:=room_adr (h:=g) (a:=a) (of_decide_eq_false h)
  have hr:=h
  show ACall _ _ _ _ _ _
  refine call_ret (word_spec g a hsl had) rfl ?_
  show ACall _ _ _ _ _ _
  refine call_ret (hUnpack_spec (wordAt g a)) rfl ?_
  show ABr (!(unp (wordAt g a)).used) _ _
  refine ⟨fun h=>?_,fun h=>?_⟩
  ·have hu:(unp (wordAt g a)).used=false:=by simpa using h
   have hE:headE g a=3:=by unfold headE;rw [hm,hr,hu];rfl
   rw [headH_no hE (by decide),hE]
   show ARet _ _ _
   exact ret_d rfl ⟨rfl,rfl⟩
  ·have hu:(unp (wordAt g a)).used=true:=by simpa using h
   have hE:headE g a=0:=by unfold headE;rw [hm,hr,hu];rfl
   rw [headH_yes hE,hE]
   show ARet _ _ _
   exact ret_d rfl ⟨rfl,rfl⟩
theorem used1_spec (g:Hp) (a:Int) (hs:shapedH g=true) (ha:adr g a):Spec X 60 [] (.int a :: capT [.rp g.enc]) (Ret [] (.bo (wordAt g a == 0))):=by
 obtain ⟨_,_,hsl,_⟩:=shapedH_of hs
 refine spec_go X_ok Tryz.f60 (by kernel_rfl) (by kernel_rfl) (by kernel_rfl) fun hb hH=>⟨rfl,?_⟩
 show ACall _ _ _ _ _ _
 refine call_ret (word_spec g a hsl ha) rfl ?_
 show ARet _ _ _
 exact ret_d rfl ⟨rfl,rfl⟩
theorem hUsed_spec (g:Hp) (hl:g.light):Spec X 19 [] [g.tv] (Ret [] (.c (.d (.sl .int (usedH g))))):=by
 refine spec_go X_ok Tryz.f19 (by kernel_rfl) (by kernel_rfl) (by kernel_rfl) fun hb hH=>⟨rfl,?_⟩
 unfold usedH
 show ACall _ _ _ _ _ _
 refine call_ret (hHMay0_spec g hl) rfl ?_
 show ABr (!mayH g []) _ _
 refine ⟨fun h=>?_,fun h=>?_⟩
 ·have hm:mayH g []=false:=by simpa using h
  rw [hm]
  show ARet _ _ _
  exact ret1 (.nilsl rfl) ⟨rfl,rfl⟩
 have hm:mayH g []=true:=by simpa using h
 have hs:=mayH_shaped hm
 rw [hm]
 show ACall _ _ _ _ _ _
 refine .mk _ (cAll_spec g.pages) fun H r hq _ _=>?_
 obtain ⟨rfl,rfl⟩:=hq
 refine ⟨.inl rfl,?_⟩
 show ACall _ _ _ _ _ _
 refine .hand [(_,16)] [(16,.data .int (cellStarts g.pages))] [.c (.own 16),.c (.d (.fn 60 [] [.rp g.enc]))] _ (.cons _ _ _ _ (.c _ _ (.own1 _ _)) (.cons _ _ _ _ (.c _ _ (.frz _ _ rfl)) .nil)) (.old 16 _ _ _ _ rfl rfl (.data_eq rfl) .nil) rfl (DeleteFunc_spec (cellStarts g.pages) _ [.rp g.enc] (fun a=>wordAt g a == 0) (fun x hx=>used1_spec g x hs (start_adr hx))) ?_
 rintro H r ⟨z,rfl,rfl⟩ _ _
 refine ⟨rfl,.inr ⟨rfl,rfl⟩,?_⟩
 show ARet _ _ _
 have ef:(cellStarts g.pages).filter (fun a=>wordAt g a != 0)=(cellStarts g.pages).filter (fun x=>!(fun a=>wordAt g a == 0) x):=rfl
 rw [ef]
 generalize hF:(cellStarts g.pages).filter (fun x=>!(fun a=>wordAt g a == 0) x)=F
 have hle:Nat.ble (0+F.length) (F ++ z).length=true:=Nat.ble_eq_true_of_le (by rw [List.length_append];omega)
 refine ret1 (.frz (k:=.int) (l:=((F ++ z).drop 0).take F.length) ?_ ?_) ⟨rfl,rfl⟩
 ·show (bif Nat.ble (0+F.length) (F ++ z).length then some (DV.sl .int (((F ++ z).drop 0).take F.length)) else none)=_
  rw [hle]
  rfl
 ·show ((F ++ z).drop 0).take F.length=F
  rw [List.drop_zero,List.take_left]
theorem hNew_spec (n : Int) : Spec X 32 [] [.int n] (Ret [] (.tup [(newH n).tv, .int (newE n)])) := by
  refine spec_go X_ok Tryz.f32 (by kernel_rfl) (by kernel_rfl) (by kernel_rfl) fun hb hH => ⟨rfl, ?_⟩
  show ACall _ _ _ _ _ _
  refine call_ret (aNew_spec n) rfl ?_
  cases hp : pgN n with
  | false =>
    have e1 : newE n = 1 := by unfold newE; rw [hp]; rfl
    have e2 : newH n = Hp.zero := by unfold newH; rw [hp]; rfl
    rw [e2, e1]
    show ABr _ _ _
    refine ⟨fun _ => ?_, fun h => absurd h (by decide)⟩
    show ARet _ _ _
    exact ⟨[], [], _, .cons _ _ _ _ (.agg _ _ (.cons _ _ _ _ (.nilsl .int) (.cons _ _ _ _ (.nilsl .page) (.cons _ _ _ _ (.nilsl .int) (.cons _ _ _ _ (.nilsl .int) (.cons _ _ _ _ (.nilsl .int) (.cons _ _ _ _ (.nilsl .bool) .nil))))))) (.cons _ _ _ _ .same .nil), .nil, rfl, rfl, rfl⟩
  | true =>
    have e1 : newE n = 0 := by unfold newE; rw [hp]; rfl
    have e2 : newH n = ⟨zer (n * 16).toNat, List.replicate n.toNat ⟨0, 0⟩, ⟨[], [], []⟩, List.replicate (2 * n).toNat false⟩ := by unfold newH; rw [hp]; rfl
    have e3 : newW n = zer (n * 16).toNat := by unfold newW; rw [hp]; rfl
    have hn := of_decide_eq_true hp
    rw [e2, e1, e3]
    show ABr _ _ _
    refine ⟨fun h => absurd h (by decide), fun _ => ?_⟩
    show AOb ((0 : Int) ≤ n ∧ n ≤ n ∧ n ≤ (most : Int)) _
    refine ⟨by unfold most; omega, ?_⟩
    have hl : (zer (n * 16).toNat).length = (n * 16).toNat := by unfold zer; simp
    have ht : tdv ((zer (n * 16).toNat).length : Int) 8 = 2 * n := by
      have := len8 (zer (n * 16).toNat).length (by rw [hl]; unfold maxN; omega)
      rw [this, hl]
      omega
    show AOb _ _
    refine ⟨by decide, ?_⟩
    show AOb ((0 : Int) ≤ tdv ((zer (n * 16).toNat).length : Int) 8 ∧ tdv ((zer (n * 16).toNat).length : Int) 8 ≤ tdv ((zer (n * 16).toNat).length : Int) 8 ∧ tdv ((zer (n * 16).toNat).length : Int) 8 ≤ (most : Int)) _
    refine ⟨by rw [ht]; unfold most; omega, ?_⟩
    show ARet _ _ _
    exact ⟨[], [], _, .cons _ _ _ _ (.agg _ _ (.cons _ _ _ _ (.d _) (.cons _ _ _ _ (.frz_eq (k := .page) rfl rfl) (.cons _ _ _ _ (.nilsl .int) (.cons _ _ _ _ (.nilsl .int) (.cons _ _ _ _ (.nilsl .int) (.cons _ _ _ _ (.frz_eq (k := .bool) (l := List.replicate (tdv ((zer (n * 16).toNat).length : Int) 8).toNat false) rfl (by rw [ht]; rfl)) .nil))))))) (.cons _ _ _ _ .same .nil), .nil, rfl, rfl, rfl⟩
theorem hown_spec (g:Hp) (hl:g.light) (hs:shapedH g=true):Spec X 192 [] [g.tv] (Ret [] g.tv):=by
 refine spec_go X_ok Tryz.f192 (by kernel_rfl) (by kernel_rfl) (by kernel_rfl) fun hb hH=>⟨rfl,?_⟩
 obtain ⟨_,_,h1,h2,h3,h4⟩:=shapedH_of hs
 have hf:g.free.l0.length+g.free.l1.length+g.free.l2.length≤most:=by
  have:=hl
  unfold Hp.light at this
  simp [flats,Lists.flat] at this
  omega
 have hm:1024≤most:=by decide
 show ADCall _ _ _ _ _ _
 refine .mk _ _ (CloneInts_spec g.w (by omega)) rfl ?_
 show ADCall _ _ _ _ _ _
 refine .mk _ _ (ClonePages_spec g.pages (by omega)) rfl ?_
 show ADCall _ _ _ _ _ _
 refine .mk _ _ (CloneBools_spec g.cards (by omega)) rfl ?_
 show ∃ n,_
 refine ⟨4,?_⟩
 show ALoop _ _ _ _
 refine .next ?_
 show ABr _ _ _
 refine ⟨fun _=>?_,fun h=>absurd h (by decide)⟩
 show AOb _ _
 refine ⟨by decide,?_⟩
 show ACall _ _ _ _ _ _
 refine call_ret (CloneInts_spec g.free.l0 (by omega)) rfl ?_
 show AOb _ _
 refine ⟨by decide,?_⟩
 show ALoop _ _ _ _
 refine .next ?_
 show ABr _ _ _
 refine ⟨fun _=>?_,fun h=>absurd h (by decide)⟩
 show AOb _ _
 refine ⟨by decide,?_⟩
 show ACall _ _ _ _ _ _
 refine call_ret (CloneInts_spec g.free.l1 (by omega)) rfl ?_
 show AOb _ _
 refine ⟨by decide,?_⟩
 show ALoop _ _ _ _
 refine .next ?_
 show ABr _ _ _
 refine ⟨fun _=>?_,fun h=>absurd h (by decide)⟩
 show AOb _ _
 refine ⟨by decide,?_⟩
 show ACall _ _ _ _ _ _
 refine call_ret (CloneInts_spec g.free.l2 (by omega)) rfl ?_
 show AOb _ _
 refine ⟨by decide,?_⟩
 show ALoop _ _ _ _
 refine .next ?_
 show ABr _ _ _
 refine ⟨fun h=>absurd h (by decide),fun _=>?_⟩
 show ARet _ _ _
 exact ret_d rfl ⟨rfl,rfl⟩
end Go.Abs
namespace Go.Abs
open Go.Proofs Go.Proofs.YtejnngjfjaeiiaaGreatDoor
set_option maxRecDepth 8000
def setE (g:Hp) (a:Int) (x:Hd):Int:=bif decide (headE g a=0) then (bif decide (x.May∧x.used=true∧x.n=(headH g a).n) then 0 else 1) else headE g a
def putH (g:Hp) (a:Int) (v:Int):Hp:=⟨g.w.set (a - 16).toNat v,g.pages,g.free,g.cards⟩
def setH (g:Hp) (a:Int) (x:Hd):Hp:=bif decide (setE g a x=0) then putH g a x.word else Hp.zero
theorem setH_no {g:Hp} {a:Int} {x:Hd} {e:Int} (h:setE g a x=e) (he:e≠0):setH g a x=Hp.zero:=by unfold setH;rw [h,decide_eq_false he];rfl
theorem setH_yes {g:Hp} {a:Int} {x:Hd} (h:setE g a x=0):setH g a x=putH g a x.word:=by unfold setH;rw [h];rfl
theorem headE_of {g : Hp} {a : Int} (h : headE g a = 0) : mayH g [] = true ∧ roomAt g.pages a ≠ 0 ∧ (unp (wordAt g a)).used = true := by
  unfold headE at h
  cases hm : mayH g [] with
  | false => rw [hm] at h; exact absurd h (by simp)
  | true =>
    rw [hm] at h
    by_cases hr : roomAt g.pages a = 0
    · rw [decide_eq_true hr] at h; exact absurd h (by simp)
    · rw [decide_eq_false hr] at h
      cases hu : (unp (wordAt g a)).used with
      | false => rw [hu] at h; exact absurd h (by decide)
      | true => exact ⟨rfl, hr, rfl⟩
theorem hSet_spec (g : Hp) (a : Int) (x : Hd) (hl : g.light) : Spec X 151 [] [g.tv, .int a, x.tv] (Ret [] (.tup [(setH g a x).tv, .int (setE g a x)])) := by
  refine spec_go X_ok Tryz.f151 (by kernel_rfl) (by kernel_rfl) (by kernel_rfl) fun hb hH => ⟨rfl, ?_⟩
  show ACall _ _ _ _ _ _
  refine call_ret (hHead_spec g a hl) rfl ?_
  show ABr (headE g a != 0) _ _
  refine ⟨fun h => ?_, fun h => ?_⟩
  · have h0 : headE g a ≠ 0 := by simpa using h
    have hE : setE g a x = headE g a := by unfold setE; rw [decide_eq_false h0]; rfl
    rw [setH_no hE h0, hE]
    show ARet _ _ _
    exact ⟨[], [], _, .cons _ _ _ _ (.agg _ _ (.cons _ _ _ _ (.nilsl .int) (.cons _ _ _ _ (.nilsl .page) (.cons _ _ _ _ (.nilsl .int) (.cons _ _ _ _ (.nilsl .int) (.cons _ _ _ _ (.nilsl .int) (.cons _ _ _ _ (.nilsl .bool) .nil))))))) (.cons _ _ _ _ .same .nil), .nil, rfl, rfl, rfl⟩
  · have h0 : headE g a = 0 := by simpa using h
    obtain ⟨hm, hr, hu⟩ := headE_of h0
    have hs := mayH_shaped hm
    obtain ⟨hw, _, hsl, _⟩ := shapedH_of hs
    have had := room_adr (h := g) (a := a) hr
    show ACall _ _ _ _ _ _
    refine call_ret (hPack_spec x) rfl ?_
    have hiff : (bif (bif packE x != 0 then true else !x.used) then true else x.n != (headH g a).n) = !decide (x.May ∧ x.used = true ∧ x.n = (headH g a).n) := by
      unfold packE
      by_cases c1 : x.May
      · rw [if_pos c1]
        cases c2 : x.used with
        | false => simp [c1, c2]
        | true =>
          by_cases c3 : x.n = (headH g a).n <;> simp [c1, c2, c3]
      · rw [if_neg c1]
        simp [c1]
    show ABr (bif (bif packE x != 0 then true else !x.used) then true else x.n != (headH g a).n) _ _
    rw [hiff]
    refine ⟨fun h => ?_, fun h => ?_⟩
    · have hc : decide (x.May ∧ x.used = true ∧ x.n = (headH g a).n) = false := by
        cases hd : decide (x.May ∧ x.used = true ∧ x.n = (headH g a).n) with
        | false => rfl
        | true => rw [hd] at h; exact absurd h (by decide)
      have hE : setE g a x = 1 := by unfold setE; rw [h0, hc]; rfl
      rw [setH_no hE (by decide), hE]
      show ARet _ _ _
      exact ⟨[], [], _, .cons _ _ _ _ (.agg _ _ (.cons _ _ _ _ (.nilsl .int) (.cons _ _ _ _ (.nilsl .page) (.cons _ _ _ _ (.nilsl .int) (.cons _ _ _ _ (.nilsl .int) (.cons _ _ _ _ (.nilsl .int) (.cons _ _ _ _ (.nilsl .bool) .nil))))))) (.cons _ _ _ _ .same .nil), .nil, rfl, rfl, rfl⟩
    · have hc : decide (x.May ∧ x.used = true ∧ x.n = (headH g a).n) = true := by
        cases hd : decide (x.May ∧ x.used = true ∧ x.n = (headH g a).n) with
        | true => rfl
        | false => rw [hd] at h; exact absurd h (by decide)
      have hE : setE g a x = 0 := by unfold setE; rw [h0, hc]; rfl
      have hM : x.May := (of_decide_eq_true hc).1
      rw [setH_yes hE, hE]
      show ACall _ _ _ _ _ _
      refine call_ret (hown_spec g hl hs) rfl ?_
      have hp : packW x = x.word := if_pos hM
      show ACall _ _ _ _ _ _
      refine call_ret (aPut_spec g.w a (packW x) hw ⟨had.1, by have := had.2; omega⟩) rfl ?_
      rw [hp]
      show ARet _ _ _
      exact ret_d rfl ⟨rfl, rfl⟩
end Go.Abs
namespace Go.Abs
theorem mayH_of {g:Hp} {cs:List Lists} (h:mayH g cs=true):shapedH g=true∧(∀ l∈g.free :: cs,listedB g l=true)∧(∀ a∈cellStarts g.pages,cellB g a=true)∧(flats (g.free :: cs)).Nodup:=by
 unfold mayH at h
 simp only [Bool.and_eq_true,List.all_eq_true,decide_eq_true_eq] at h
 exact ⟨h.1,h.2.1,h.2.2.1,h.2.2.2⟩
theorem mayH_mk {g:Hp} {cs:List Lists} (h1:shapedH g=true) (h2:∀ l∈g.free :: cs,listedB g l=true) (h3:∀ a∈cellStarts g.pages,cellB g a=true) (h4:(flats (g.free :: cs)).Nodup):mayH g cs=true:=by
 unfold mayH
 simp only [Bool.and_eq_true,List.all_eq_true,decide_eq_true_eq]
 exact ⟨h1,h2,h3,h4⟩
theorem isHd_unp {w:Int} (h:isHd w=true):unp w=hdOf w∧(hdOf w).May:=by
 have hm:(hdOf w).May:=of_decide_eq_true h
 exact ⟨if_pos hm,hm⟩
theorem used_ne {w : Int} (h : isHd w = true) : (unp w).used = (w != 0) := by
  obtain ⟨e, hm⟩ := isHd_unp h
  rw [e]
  cases hu : (hdOf w).used with
  | true =>
    have h1 : w % 2 = 1 := of_decide_eq_true hu
    have : w ≠ 0 := by omega
    simp [this]
  | false =>
    have hz : hdOf w = Hd.zero := by
      unfold Hd.May at hm
      rw [if_neg (by simp [hu])] at hm
      exact hm
    have := hdOf_word w
    rw [hz] at this
    have hw : w = 0 := by rw [← this]; rfl
    subst hw
    rfl
theorem unp_word {x:Hd} (hm:x.May):unp x.word=x∧isHd x.word=true:=by
 have e:=word_hdOf hm
 constructor
 ·unfold unp;rw [if_pos (by rw [e];exact hm),e]
 ·unfold isHd;rw [e];exact decide_eq_true hm
theorem word_ne {x:Hd} (hm:x.May) (hu:x.used=true):x.word≠0:=by
 have h:=used_ne (unp_word hm).2
 rw [(unp_word hm).1,hu] at h
 intro e
 rw [e] at h
 exact absurd h (by decide)
theorem cls_fits {n c:Int} (h1:clsE n=0) (h2:clsOf n=c) (hc:0≤c∧c≤2):1≤n∧n < clsW c:=by
 have hn:¬ n < 1∧¬ n > 63:=by
  unfold clsE at h1
  by_cases g1:n < 1
  ·rw [if_pos g1] at h1;exact absurd h1 (by decide)
  ·rw [if_neg g1] at h1
   by_cases g2:n > 63
   ·rw [if_pos g2] at h1;exact absurd h1 (by decide)
   ·exact ⟨g1,g2⟩
 unfold clsOf at h2
 rw [if_neg (by omega)] at h2
 by_cases g1:n≤1
 ·rw [if_pos g1] at h2;subst h2;exact ⟨by omega,by rw [show clsW 0=2 from rfl];omega⟩
 ·rw [if_neg g1] at h2
  by_cases g2:n≤3
  ·rw [if_pos g2] at h2;subst h2;exact ⟨by omega,by rw [show clsW 1=4 from rfl];omega⟩
  ·rw [if_neg g2] at h2
   by_cases g3:n≤7
   ·rw [if_pos g3] at h2;subst h2;exact ⟨by omega,by rw [show clsW 2=8 from rfl];omega⟩
   ·rw [if_neg g3] at h2;omega
theorem run_fits {n c:Int} (h1:runE n=0) (h2:runOf n=c):1≤n∧n < 16 * c∧clsE n=0:=by
 unfold runE at h1
 unfold runOf at h2
 by_cases g0:clsE n≠0
 ·rw [if_pos g0] at h1;exact absurd h1 g0
 ·rw [if_neg g0] at h1 h2
  have hE:clsE n=0:=by omega
  by_cases g1:clsOf n < 3
  ·rw [if_pos g1] at h1;exact absurd h1 (by decide)
  ·rw [if_neg g1] at h2
   have hn:¬ n < 1:=by
    intro g
    unfold clsE at hE
    rw [if_pos g] at hE
    exact absurd hE (by decide)
   exact ⟨by omega,by omega,hE⟩
theorem cell_fits {g:Hp} {a:Int} (hr:roomAt g.pages a≠0) (hc:cellB g a=true) (hu:(unp (wordAt g a)).used=true):1≤(unp (wordAt g a)).n∧(unp (wordAt g a)).n < roomAt g.pages a:=by
 obtain ⟨_,i,hi⟩:=cellOf_mem (roomAt_pos hr)
 unfold cellB at hc
 rw [hu,cond_true,Bool.and_eq_true] at hc
 have hpg:pageAt g a=g.pages.getD i default:=by
  unfold pageAt
  have:=hi.div
  simp only at this
  rw [this]
  simp
 have hf:=hc.2
 unfold fitsB at hf
 rw [hpg] at hf
 rcases hi.kind with ⟨k1,k2,k3,_,k5⟩ | ⟨k1,k2,k3,_,k5⟩
 ·rw [k1] at hf
  have hf:=of_decide_eq_true (show decide _=true from hf)
  simp only at k5
  rw [k5]
  exact cls_fits hf.1 hf.2 ⟨k2,k3⟩
 ·rw [k1] at hf
  have hf:=of_decide_eq_true (show decide _=true from hf)
  simp only at k5
  have:=run_fits hf.1 hf.2
  rw [k5]
  omega
theorem usedH_eq {g:Hp} (hm:mayH g []=true):usedH g=(cellStarts g.pages).filter (fun a=>wordAt g a != 0):=by unfold usedH;rw [hm];rfl
theorem mem_usedH {g : Hp} {a : Int} : a ∈ usedH g ↔ headE g a = 0 := by
  constructor
  · intro h
    cases hm : mayH g [] with
    | false => unfold usedH at h; rw [hm] at h; cases h
    | true =>
      rw [usedH_eq hm, List.mem_filter] at h
      have hr := mem_starts.1 h.1
      have hc := (mayH_of hm).2.2.1 a h.1
      unfold cellB at hc
      rw [Bool.and_eq_true] at hc
      have hu := used_ne hc.1
      rw [h.2] at hu
      unfold headE
      rw [hm, decide_eq_false hr, hu]
      rfl
  · intro h
    obtain ⟨hm, hr, hu⟩ := headE_of h
    have hs := mem_starts.2 hr
    have hc := (mayH_of hm).2.2.1 a hs
    unfold cellB at hc
    rw [Bool.and_eq_true] at hc
    rw [usedH_eq hm, List.mem_filter]
    exact ⟨hs, by rw [← used_ne hc.1]; exact hu⟩
theorem usedH_sorted (g:Hp):(usedH g).Pairwise (· < ·):=by
 unfold usedH
 cases mayH g [] with
 | false=>exact List.Pairwise.nil
 | true=>exact (starts_sorted g.pages).filter _
theorem head_fits {g:Hp} {a:Int} (h:headE g a=0):(headH g a).used=true∧1≤(headH g a).n∧(headH g a).n < roomAt g.pages a∧adr g a:=by
 obtain ⟨hm,hr,hu⟩:=headE_of h
 rw [headH_yes h]
 have:=cell_fits hr ((mayH_of hm).2.2.1 a (mem_starts.2 hr)) hu
 exact ⟨hu,this.1,this.2,room_adr hr⟩
end Go.Abs
namespace Go.Abs
theorem adr_idx {g:Hp} {a:Int} (hs:g.w.length=16 * g.pages.length) (ha:adr g a):(a - 16).toNat < g.w.length:=by
 have h1:=ha.1;have h2:=ha.2
 omega
theorem at0_put {l:List Int} {i j:Nat} {v:Int} (hi:i < l.length):at0 (l.set i v) j=if i=j then v else at0 l j:=by
 unfold at0
 rw [List.getD_eq_getElem?_getD,List.getD_eq_getElem?_getD,List.getElem?_set]
 by_cases h:i=j
 ·rw [if_pos h,if_pos hi,if_pos h];rfl
 ·rw [if_neg h,if_neg h]
theorem wordAt_put {g:Hp} {a u v:Int} (hs:g.w.length=16 * g.pages.length) (ha:adr g a) (hu:adr g u):wordAt (putH g a v) u=if u=a then v else wordAt g u:=by
 unfold wordAt
 show at0 (g.w.set (a - 16).toNat v) (u - 16).toNat=_
 rw [at0_put (adr_idx hs ha)]
 have h1:=ha.1;have h2:=hu.1
 by_cases h:u=a
 ·subst h;rw [if_pos rfl,if_pos rfl]
 ·rw [if_neg h,if_neg (by omega)]
theorem shaped_put (g:Hp) (a v:Int):shapedH (putH g a v)=shapedH g:=by
 unfold shapedH putH mayW
 simp only [List.length_set]
theorem free_put {g:Hp} {a v:Int} (hs:g.w.length=16 * g.pages.length) (ha:adr g a) (h0:wordAt g a≠0) (hv:v≠0) (c u:Int):freeB (putH g a v) c u=freeB g c u:=by
 unfold freeB
 show decide (0 < roomAt g.pages u∧pageAt g u=⟨1,c⟩∧wordAt (putH g a v) u=0)=_
 by_cases hr:0 < roomAt g.pages u
 ·have hu:=room_adr (h:=g) (a:=u) (by omega)
  rw [wordAt_put hs ha hu]
  by_cases e:u=a
  ·subst e
   simp [hv,h0]
  ·rw [if_neg e]
 ·simp [hr]
theorem listed_put {g:Hp} {a v:Int} (hs:g.w.length=16 * g.pages.length) (ha:adr g a) (h0:wordAt g a≠0) (hv:v≠0) (l:Lists):listedB (putH g a v) l=listedB g l:=by
 unfold listedB
 rw [show freeB (putH g a v) 0=freeB g 0 from funext (free_put hs ha h0 hv 0),show freeB (putH g a v) 1=freeB g 1 from funext (free_put hs ha h0 hv 1),show freeB (putH g a v) 2=freeB g 2 from funext (free_put hs ha h0 hv 2)]
structure PutOk (g:Hp) (a:Int) (x:Hd):Prop where
 may:mayH g []=true
 room:roomAt g.pages a≠0
 used:(unp (wordAt g a)).used=true
 xmay:x.May
 xused:x.used=true
 xn:x.n=(unp (wordAt g a)).n
theorem setE_ok {g : Hp} {a : Int} {x : Hd} (h : setE g a x = 0) : PutOk g a x ∧ headE g a = 0 := by
  unfold setE at h
  by_cases h0 : headE g a = 0
  · rw [decide_eq_true h0] at h
    obtain ⟨h1, h2, h3⟩ := headE_of h0
    cases hd : decide (x.May ∧ x.used = true ∧ x.n = (headH g a).n) with
    | false => rw [hd] at h; exact absurd h (by simp)
    | true =>
      obtain ⟨g1, g2, g3⟩ := of_decide_eq_true hd
      rw [headH_yes h0] at g3
      exact ⟨⟨h1, h2, h3, g1, g2, g3⟩, h0⟩
  · rw [decide_eq_false h0] at h
    exact absurd h h0
theorem PutOk.w0 {g:Hp} {a:Int} {x:Hd} (h:PutOk g a x):wordAt g a≠0:=by
 have hc:=(mayH_of h.may).2.2.1 a (mem_starts.2 h.room)
 unfold cellB at hc
 rw [Bool.and_eq_true] at hc
 have:=used_ne hc.1
 rw [h.used] at this
 simpa using this.symm
theorem cell_put {g:Hp} {a:Int} {x:Hd} (h:PutOk g a x) {u:Int} (hu:u∈cellStarts g.pages):cellB (putH g a x.word) u=cellB g u:=by
 obtain ⟨_,_,hs,_⟩:=shapedH_of (mayH_of h.may).1
 unfold cellB
 rw [wordAt_put hs (room_adr h.room) (start_adr hu)]
 by_cases e:u=a
 ·subst e
  rw [if_pos rfl,(unp_word h.xmay).1,(unp_word h.xmay).2,h.xused,h.xn,h.used]
  have hc:=(mayH_of h.may).2.2.1 u hu
  unfold cellB at hc
  rw [Bool.and_eq_true] at hc
  rw [hc.1]
  rfl
 ·rw [if_neg e]
  rfl
theorem may_put {g:Hp} {a:Int} {x:Hd} (h:PutOk g a x) (cs:List Lists):mayH (putH g a x.word) cs=mayH g cs:=by
 obtain ⟨_,_,hs,_⟩:=shapedH_of (mayH_of h.may).1
 have h0:=h.w0
 have hx:=word_ne h.xmay h.xused
 have hl:=listed_put hs (room_adr h.room) h0 hx
 unfold mayH
 rw [shaped_put]
 show (shapedH g && ((g.free :: cs).all (listedB (putH g a x.word)) && ((cellStarts g.pages).all (cellB (putH g a x.word)) && _)))=_
 rw [show listedB (putH g a x.word)=listedB g from funext hl]
 have hc:(cellStarts g.pages).all (cellB (putH g a x.word))=(cellStarts g.pages).all (cellB g):=by
  rw [Bool.eq_iff_iff,List.all_eq_true,List.all_eq_true]
  exact ⟨fun k u hu=>by rw [← cell_put h hu];exact k u hu,fun k u hu=>by rw [cell_put h hu];exact k u hu⟩
 rw [hc]
 rfl
theorem ne0_put {g:Hp} {a:Int} {x:Hd} (h:PutOk g a x) {u:Int} (hu:u∈cellStarts g.pages):(wordAt (putH g a x.word) u != 0)=(wordAt g u != 0):=by
 obtain ⟨_,_,hs,_⟩:=shapedH_of (mayH_of h.may).1
 have h0:=h.w0
 have hx:=word_ne h.xmay h.xused
 rw [wordAt_put hs (room_adr h.room) (start_adr hu)]
 by_cases e:u=a
 ·subst e
  rw [if_pos rfl,(bne_iff_ne (a:=x.word) (b:=0)).2 hx,(bne_iff_ne (a:=wordAt g u) (b:=0)).2 h0]
 ·rw [if_neg e]
theorem whole_put {g:Hp} {a:Int} {x:Hd} (h:PutOk g a x) (cs:List Lists):wholeH (putH g a x.word) cs=wholeH g cs:=by
 unfold wholeH
 rw [may_put h]
 congr 1
 show (cellStarts g.pages).all _=(cellStarts g.pages).all _
 rw [Bool.eq_iff_iff,List.all_eq_true,List.all_eq_true]
 constructor
 ·intro k u hu
  rw [← ne0_put h hu]
  exact k u hu
 ·intro k u hu
  have:=k u hu
  rw [← ne0_put h hu] at this
  exact this
theorem used_put {g:Hp} {a:Int} {x:Hd} (h:PutOk g a x):usedH (putH g a x.word)=usedH g:=by
 unfold usedH
 rw [may_put h,h.may]
 show (cellStarts g.pages).filter _=(cellStarts g.pages).filter _
 exact List.filter_congr fun u hu=>ne0_put h hu
theorem head_put {g:Hp} {a:Int} {x:Hd} (h:PutOk g a x) {u:Int} (hu:headE g u=0):headE (putH g a x.word) u=0∧headH (putH g a x.word) u=if u=a then x else headH g u:=by
 obtain ⟨_,hr,hus⟩:=headE_of hu
 obtain ⟨_,_,hs,_⟩:=shapedH_of (mayH_of h.may).1
 have hw:=wordAt_put (v:=x.word) hs (room_adr h.room) (room_adr hr)
 have hE:headE (putH g a x.word) u=0:=by
  unfold headE
  rw [may_put h,h.may,hw]
  show (bif true then (bif decide (roomAt g.pages u=0) then 3 else _) else 1)=0
  rw [decide_eq_false hr]
  by_cases e:u=a
  ·rw [if_pos e,(unp_word h.xmay).1,h.xused];rfl
  ·rw [if_neg e,hus];rfl
 refine ⟨hE,?_⟩
 rw [headH_yes hE,headH_yes hu,hw]
 by_cases e:u=a
 ·rw [if_pos e,if_pos e,(unp_word h.xmay).1]
 ·rw [if_neg e,if_neg e]
theorem mem_flats {L:List Lists} {x:Int}:x∈flats L↔∃ l∈L,x∈l.flat:=by unfold flats;exact List.mem_flatMap
theorem listed_free {g:Hp} {l:Lists} {x:Int} (h:listedB g l=true) (hx:x∈l.flat):0 < roomAt g.pages x∧wordAt g x=0:=by
 unfold listedB at h
 simp only [Bool.and_eq_true,List.all_eq_true] at h
 unfold Lists.flat at hx
 rw [List.mem_append,List.mem_append] at hx
 rcases hx with (hx | hx) | hx
 ·have:=of_decide_eq_true (h.1 x hx);exact ⟨this.1,this.2.2⟩
 ·have:=of_decide_eq_true (h.2.1 x hx);exact ⟨this.1,this.2.2⟩
 ·have:=of_decide_eq_true (h.2.2 x hx);exact ⟨this.1,this.2.2⟩
end Go.Abs
namespace Go.Abs
open Go.Proofs Go.Proofs.YtejnngjfjaeiiaaGreatDoor
set_option maxRecDepth 8000
theorem light_of {h:Hp} (a:h.free.l0.length≤4000000000) (b:h.free.l1.length≤4000000000) (c:h.free.l2.length≤4000000000):h.light:=by
 unfold Hp.light most
 simp [flats,Lists.flat]
 omega
def fewH (h:Hp):Bool:=decide (h.w.length≤130∧h.pages.length≤9∧h.cards.length≤20∧h.free.l0.length≤70∧h.free.l1.length≤70∧h.free.l2.length≤70)
theorem Few_spec (h:Hp):Spec X 38 [] [h.tv] (Ret [] (.bo (fewH h))):=by
 refine spec_go X_ok Tryz.f38 (by kernel_rfl) (by kernel_rfl) (by kernel_rfl) fun hb hH=>⟨rfl,?_⟩
 have ef:fewH h=(decide ((h.w.length:Int)≤130) && (decide ((h.pages.length:Int)≤9) && (decide ((h.cards.length:Int)≤20) && decide (h.free.l0.length≤70∧h.free.l1.length≤70∧h.free.l2.length≤70)))):=by
  unfold fewH
  rw [← Bool.decide_and,← Bool.decide_and,← Bool.decide_and,decide_eq_decide]
  omega
 rw [ef]
 have ec:(bif (bif decide ((h.w.length:Int)≤130) then decide ((h.pages.length:Int)≤9) else false) then decide ((h.cards.length:Int)≤20) else false)=(decide ((h.w.length:Int)≤130) && (decide ((h.pages.length:Int)≤9) && decide ((h.cards.length:Int)≤20))):=by
  cases decide ((h.w.length:Int)≤130) <;> cases decide ((h.pages.length:Int)≤9) <;> rfl
 show AIf ((bif (bif decide ((h.w.length:Int)≤130) then decide ((h.pages.length:Int)≤9) else false) then decide ((h.cards.length:Int)≤20) else false)=true∧True) _ _
 generalize hcc:(bif (bif decide ((h.w.length:Int)≤130) then decide ((h.pages.length:Int)≤9) else false) then decide ((h.cards.length:Int)≤20) else false)=cc at ec
 refine ⟨fun h1=>?_,fun h1=>?_⟩
 ·have hh:=ec.symm.trans h1.1
  simp only [Bool.and_eq_true] at hh
  rw [hh.1,hh.2.1,hh.2.2]
  show ACall _ _ _ _ _ _
  refine call_ret (Light_spec h.free) rfl ?_
  show ARet _ _ _
  exact ret_d rfl ⟨rfl,rfl⟩
 ·have hcf:cc=false:=Bool.eq_false_iff.2 fun h'=>h1 ⟨h',trivial⟩
  rw [← hcc] at hcf
  show AOb ((bif (bif decide ((h.w.length:Int)≤130) then decide ((h.pages.length:Int)≤9) else false) then decide ((h.cards.length:Int)≤20) else false)=false) _
  refine ⟨hcf,?_⟩
  show ARet _ _ _
  refine ret_bo (x:=false) ?_ ⟨rfl,rfl⟩
  rw [hcc] at hcf
  rw [hcf] at ec
  cases hb1:decide ((h.w.length:Int)≤130) <;> cases hb2:decide ((h.pages.length:Int)≤9) <;> cases hb3:decide ((h.cards.length:Int)≤20) <;> first | rfl | (rw [hb1,hb2,hb3] at ec;exact absurd ec (by decide))
theorem few_light {h:Hp} (hf:fewH h=true):h.light:=by
 have:=of_decide_eq_true hf
 exact light_of (by omega) (by omega) (by omega)
end Go.Abs
namespace Go.Abs
open Go.Proofs Go.Proofs.YtejnngjfjaeiiaaGreatDoor
set_option maxRecDepth 8000
theorem Index_spec (l:List Int) (x:Int):Spec X 214 [] [.c (.d (.sl .int l)),.int x] (Ret [] (.int (idxI (idxF (fun y=>x == y) l)))):=by
 refine spec_go X_ok Tryz.f214 (by kernel_rfl) (by kernel_rfl) (by kernel_rfl) fun hb _=>⟨rfl,?_⟩
 have hla:l.length≤maxN:=(hb (.c (.d (.sl .int l))) (by simp)).1
 unfold maxN at hla
 show ∃ n,_
 refine ⟨0,ALoop.inv (ι:={i:Nat // i≤l.length∧∀ j,j < i→(x == at0 l j)=false}) (fun i=>⟨[(0,.c (.d (.sl .int l))),(1,.int x),(7,.int l.length),(8,.int i.1)],[],32⟩) (fun i=>l.length - i.1) ⟨0,Nat.zero_le _,fun j hj=>absurd hj (by omega)⟩ ?_ ?_⟩
 ·exact ⟨[],.cons _ _ _ .same (.cons _ _ _ .same (.cons _ _ _ .same (.cons _ _ _ .same .nil))),.nil,rfl⟩
 ·rintro ⟨i,hi,hn⟩
  show ABr (decide ((i:Int) < (l.length:Int))) _ _
  refine ⟨fun h=>?_,fun h=>?_⟩
  ·have hlt:i < l.length:=by simpa using h
   show AOb ((0:Int)≤(i:Int)∧(i:Int) < (l.length:Int)) _
   refine ⟨by omega,?_⟩
   show ABr (x == l.getD i default) _ _
   refine ⟨fun h=>?_,fun h=>?_⟩
   ·show ARet _ _ _
    refine ret_int (x:=(i:Int)) ?_ ⟨rfl,rfl⟩
    rw [idxF_some (p:=fun y=>x == y) hlt hn h]
    rfl
   ·show ARound _ _ _ _
    exact ⟨⟨i+1,hlt,fun j hj=>by
     by_cases e:j=i
     ·subst e;exact h
     ·exact hn j (by omega)⟩,by show l.length - (i+1) < l.length - i;omega,[],.cons _ _ _ .same (.cons _ _ _ .same (.cons _ _ _ .same (.cons _ _ _ (.int_eq (wrapP (i:=i) (by unfold maxN;omega))) .nil))),.nil,rfl⟩
  ·have hge:i=l.length:=by simp at h;omega
   show ARet _ _ _
   refine ret_int (x:=-1) ?_ ⟨rfl,rfl⟩
   rw [idxF_none (p:=fun y=>x == y) fun y hy=>?_]
   ·rfl
   ·obtain ⟨j,hj,e⟩:=List.mem_iff_getElem.1 hy
    have:=hn j (by omega)
    rw [show at0 l j=y from by unfold at0;rw [List.getD_eq_getElem?_getD,List.getElem?_eq_getElem hj,e];rfl] at this
    exact this
theorem Contains_spec (l:List Int) (x:Int):Spec X 171 [] [.c (.d (.sl .int l)),.int x] (Ret [] (.bo (l.contains x))):=by
 refine spec_go X_ok Tryz.f171 (by kernel_rfl) (by kernel_rfl) (by kernel_rfl) fun hb _=>⟨rfl,?_⟩
 show ACall _ _ _ _ _ _
 refine call_ret (Index_spec l x) rfl ?_
 show ARet _ _ _
 refine ret_bo (x:=decide (idxI (idxF (fun y=>x == y) l)≥0)) ?_ ⟨rfl,rfl⟩
 rw [idxI_ge]
 exact (List.any_beq (l:=l) (a:=x))
def cardE (g:Hp) (a:Int):Int:=bif mayH g [] then (bif decide (16≤a∧a < 16+(g.w.length:Int)) then 0 else 3) else 1
def cardOf (g:Hp) (a:Int):Int:=bif decide (cardE g a=0) then (a - 16) / 8 else 0
def cset (g:Hp) (c:Int) (b:Bool):Hp:=⟨g.w,g.pages,g.free,g.cards.set c.toNat b⟩
def dirtyH (g:Hp) (a:Int):Hp:=bif decide (cardE g a=0) then cset g (cardOf g a) true else Hp.zero
def cleanE (g:Hp) (c:Int):Int:=bif mayH g [] then (bif decide (0≤c∧c < (g.cards.length:Int)) then 0 else 3) else 1
def cleanH (g:Hp) (c:Int):Hp:=bif decide (cleanE g c=0) then cset g c false else Hp.zero
def isDirty (g:Hp) (a:Int):Bool:=decide (cardE g a=0) && g.cards.getD (cardOf g a).toNat false
theorem CloneBoolsOwn_spec (l:List Bool) (h:l.length≤most) (hne:l≠[]):Spec X 80 [] [.c (.d (.sl .bool l))] (Ret [(0,.data .bool l)] (.c (.own 0))):=by
 refine spec_go X_ok Tryz.f80 (by kernel_rfl) (by kernel_rfl) (by kernel_rfl) fun hb _=>⟨rfl,?_⟩
 intro b (hnil:b=true→l=[])
 show ABr _ _ _
 refine ⟨fun hb=>absurd (hnil hb) hne,fun hb=>?_⟩
 show AOb (0+l.length≤most) _
 refine ⟨by omega,?_⟩
 show ARet _ _ _
 exact ⟨[(_,0)],[(0,.data .bool l)],[.c (.own 0)],.cons _ _ _ _ (.c _ _ (.own1 _ _)) .nil,.old 0 _ _ _ _ rfl rfl (.data_eq rfl) .nil,rfl,rfl,rfl⟩
theorem cset_spec (g:Hp) (c:Int) (b:Bool) (hl:g.light) (hs:shapedH g=true) (hc:0≤c∧c < (g.cards.length:Int)):Spec X 186 [] [g.tv,.int c,.bo b] (Ret [] (cset g c b).tv):=by
 refine spec_go X_ok Tryz.f186 (by kernel_rfl) (by kernel_rfl) (by kernel_rfl) fun hb hH=>⟨rfl,?_⟩
 obtain ⟨_,_,h1,h2,h3,h4⟩:=shapedH_of hs
 have hf:g.free.l0.length+g.free.l1.length+g.free.l2.length≤most:=by
  have:=hl
  unfold Hp.light at this
  simp [flats,Lists.flat] at this
  omega
 have hm:1024≤most:=by decide
 show ADCall _ _ _ _ _ _
 refine .mk _ _ (CloneInts_spec g.w (by omega)) rfl ?_
 show ADCall _ _ _ _ _ _
 refine .mk _ _ (ClonePages_spec g.pages (by omega)) rfl ?_
 show ADCall _ _ _ _ _ _
 refine .mk _ _ (CloneBoolsOwn_spec g.cards (by omega) (by intro e;rw [e] at hc;simp at hc;omega)) rfl ?_
 show ∃ n,_
 refine ⟨4,?_⟩
 show ALoop _ _ _ _
 refine .next ?_
 show ABr _ _ _
 refine ⟨fun _=>?_,fun h=>absurd h (by decide)⟩
 show AOb _ _
 refine ⟨by decide,?_⟩
 show ACall _ _ _ _ _ _
 refine call_ret (CloneInts_spec g.free.l0 (by omega)) rfl ?_
 show AOb _ _
 refine ⟨by decide,?_⟩
 show ALoop _ _ _ _
 refine .next ?_
 show ABr _ _ _
 refine ⟨fun _=>?_,fun h=>absurd h (by decide)⟩
 show AOb _ _
 refine ⟨by decide,?_⟩
 show ACall _ _ _ _ _ _
 refine call_ret (CloneInts_spec g.free.l1 (by omega)) rfl ?_
 show AOb _ _
 refine ⟨by decide,?_⟩
 show ALoop _ _ _ _
 refine .next ?_
 show ABr _ _ _
 refine ⟨fun _=>?_,fun h=>absurd h (by decide)⟩
 show AOb _ _
 refine ⟨by decide,?_⟩
 show ACall _ _ _ _ _ _
 refine call_ret (CloneInts_spec g.free.l2 (by omega)) rfl ?_
 show AOb _ _
 refine ⟨by decide,?_⟩
 show ALoop _ _ _ _
 refine .next ?_
 show ABr _ _ _
 refine ⟨fun h=>absurd h (by decide),fun _=>?_⟩
 show AOb ((0:Int)≤c∧c < (g.cards.length:Int)) _
 refine ⟨hc,?_⟩
 show AOb (c.toNat < g.cards.length) _
 refine ⟨by omega,?_⟩
 show ARet _ _ _
 exact ⟨[],[],_,.cons _ _ _ _ (.agg _ _ (.cons _ _ _ _ (.d _) (.cons _ _ _ _ (.d _) (.cons _ _ _ _ (.d _) (.cons _ _ _ _ (.d _) (.cons _ _ _ _ (.d _) (.cons _ _ _ _ (.frz_eq (k:=.bool) (l:=g.cards.set c.toNat b) rfl rfl) .nil))))))) .nil,.nil,rfl,rfl,rfl⟩
theorem cardE_of {g : Hp} {a : Int} (h : cardE g a = 0) : mayH g [] = true ∧ 16 ≤ a ∧ a < 16 + (g.w.length : Int) := by
  unfold cardE at h
  cases hm : mayH g [] with
  | false => rw [hm] at h; exact absurd h (by simp)
  | true =>
    rw [hm] at h
    by_cases hr : 16 ≤ a ∧ a < 16 + (g.w.length : Int)
    · exact ⟨rfl, hr⟩
    · rw [decide_eq_false hr] at h; exact absurd h (by simp)
theorem cardE_mk {g:Hp} {a:Int} (h:mayH g []=true) (ha:16≤a∧a < 16+(g.w.length:Int)):cardE g a=0:=by unfold cardE;rw [h,decide_eq_true ha];rfl
theorem cardOf_yes {g:Hp} {a:Int} (h:cardE g a=0):cardOf g a=(a - 16) / 8:=by unfold cardOf;rw [h];rfl
theorem cardOf_no {g:Hp} {a:Int} (h:cardE g a≠0):cardOf g a=0:=by unfold cardOf;rw [decide_eq_false h];rfl
theorem card_in {g:Hp} {a:Int} (h:cardE g a=0):0≤cardOf g a∧cardOf g a < (g.cards.length:Int):=by
 obtain ⟨hm,h1,h2⟩:=cardE_of h
 obtain ⟨_,_,h3,h4,_⟩:=shapedH_of (mayH_shaped hm)
 rw [cardOf_yes h]
 omega
theorem cOf10_spec (g:Hp) (a:Int) (hl:g.light) (ha:a < 9223372036854775808):Spec X 190 [] [g.tv,.int a] (Ret [] (.tup [.int (cardOf g a),.int (cardE g a)])):=by
 refine spec_go X_ok Tryz.f190 (by kernel_rfl) (by kernel_rfl) (by kernel_rfl) fun hb hH=>⟨rfl,?_⟩
 show ACall _ _ _ _ _ _
 refine call_ret (hHMay0_spec g hl) rfl ?_
 show ABr (!mayH g []) _ _
 refine ⟨fun h=>?_,fun h=>?_⟩
 ·have hm:mayH g []=false:=by simpa using h
  have hE:cardE g a=1:=by unfold cardE;rw [hm];rfl
  rw [hE,cardOf_no (by rw [hE];decide)]
  show ARet _ _ _
  exact ret_d rfl ⟨rfl,rfl⟩
 have hm:mayH g []=true:=by simpa using h
 have hs:=mayH_shaped hm
 obtain ⟨_,_,hsl,_,hp1,hp2⟩:=shapedH_of hs
 have ho:¬ (16≤a∧a < 16+(g.w.length:Int))→cardE g a=3:=fun h=>by unfold cardE;rw [hm,decide_eq_false h];rfl
 show ABr (decide (a < 16)) _ _
 refine ⟨fun h=>?_,fun h=>?_⟩
 ·have hE:=ho (by have:=of_decide_eq_true h;omega)
  rw [hE,cardOf_no (by rw [hE];decide)]
  show ABr (decide (a < 16)) _ _
  rw [h]
  show ABr _ _ _
  refine ⟨fun _=>?_,fun h=>absurd h (by decide)⟩
  show ARet _ _ _
  exact ret_d rfl ⟨rfl,rfl⟩
 ·have h16:=of_decide_eq_false h
  have ew:IntKind.i64.wrap (a - 16)=a - 16:=wrap64 (by omega) (by omega)
  show ABr (decide (IntKind.i64.wrap (a - 16)≥(g.w.length:Int))) _ _
  rw [ew]
  refine ⟨fun h=>?_,fun h=>?_⟩
  ·have hE:=ho (by have:=of_decide_eq_true h;omega)
   rw [hE,cardOf_no (by rw [hE];decide)]
   show ARet _ _ _
   exact ret_d rfl ⟨rfl,rfl⟩
  ·have hin:16≤a∧a < 16+(g.w.length:Int):=by have:=of_decide_eq_false h;omega
   have hE:=cardE_mk hm hin
   have ed:tdv (IntKind.i64.wrap (a - 16)) 8=(a - 16) / 8:=by rw [ew];exact tdv_eq (by omega) (by omega) (by omega)
   rw [hE,cardOf_yes hE,← ed]
   show AOb _ _
   refine ⟨by decide,?_⟩
   show ARet _ _ _
   exact ret_d rfl ⟨rfl,rfl⟩
theorem Dirty_spec (g:Hp) (a:Int) (hl:g.light) (ha:a < 9223372036854775808):Spec X 146 [] [g.tv,.int a] (Ret [] (.tup [(dirtyH g a).tv,.int (cardE g a)])):=by
 refine spec_go X_ok Tryz.f146 (by kernel_rfl) (by kernel_rfl) (by kernel_rfl) fun hb hH=>⟨rfl,?_⟩
 show ACall _ _ _ _ _ _
 refine call_ret (cOf10_spec g a hl ha) rfl ?_
 show ABr (cardE g a != 0) _ _
 refine ⟨fun h=>?_,fun h=>?_⟩
 ·have hE:cardE g a≠0:=by simpa using h
  rw [show dirtyH g a=Hp.zero from by unfold dirtyH;rw [decide_eq_false hE];rfl]
  show ARet _ _ _
  exact ⟨[],[],_,.cons _ _ _ _ (.agg _ _ (.cons _ _ _ _ (.nilsl .int) (.cons _ _ _ _ (.nilsl .page) (.cons _ _ _ _ (.nilsl .int) (.cons _ _ _ _ (.nilsl .int) (.cons _ _ _ _ (.nilsl .int) (.cons _ _ _ _ (.nilsl .bool) .nil))))))) (.cons _ _ _ _ .same .nil),.nil,rfl,rfl,rfl⟩
 ·have hE:cardE g a=0:=by simpa using h
  have hs:=mayH_shaped (cardE_of hE).1
  rw [show dirtyH g a=cset g (cardOf g a) true from by unfold dirtyH;rw [hE];rfl,hE]
  show ACall _ _ _ _ _ _
  refine call_ret (cset_spec g (cardOf g a) true hl hs (card_in hE)) rfl ?_
  show ARet _ _ _
  exact ret_d rfl ⟨rfl,rfl⟩
theorem Clean_spec (g:Hp) (c:Int) (hl:g.light):Spec X 141 [] [g.tv,.int c] (Ret [] (.tup [(cleanH g c).tv,.int (cleanE g c)])):=by
 refine spec_go X_ok Tryz.f141 (by kernel_rfl) (by kernel_rfl) (by kernel_rfl) fun hb hH=>⟨rfl,?_⟩
 show ACall _ _ _ _ _ _
 refine call_ret (hHMay0_spec g hl) rfl ?_
 show ABr (!mayH g []) _ _
 refine ⟨fun h=>?_,fun h=>?_⟩
 ·have hm:mayH g []=false:=by simpa using h
  have hE:cleanE g c=1:=by unfold cleanE;rw [hm];rfl
  rw [show cleanH g c=Hp.zero from by unfold cleanH;rw [hE];rfl,hE]
  show ARet _ _ _
  exact ⟨[],[],_,.cons _ _ _ _ (.agg _ _ (.cons _ _ _ _ (.nilsl .int) (.cons _ _ _ _ (.nilsl .page) (.cons _ _ _ _ (.nilsl .int) (.cons _ _ _ _ (.nilsl .int) (.cons _ _ _ _ (.nilsl .int) (.cons _ _ _ _ (.nilsl .bool) .nil))))))) (.cons _ _ _ _ .same .nil),.nil,rfl,rfl,rfl⟩
 have hm:mayH g []=true:=by simpa using h
 have hs:=mayH_shaped hm
 have ho:¬ (0≤c∧c < (g.cards.length:Int))→cleanE g c=3:=fun h=>by unfold cleanE;rw [hm,decide_eq_false h];rfl
 show ABr (decide (c < 0)) _ _
 refine ⟨fun h=>?_,fun h=>?_⟩
 ·have hE:=ho (by have:=of_decide_eq_true h;omega)
  rw [show cleanH g c=Hp.zero from by unfold cleanH;rw [hE];rfl,hE]
  show ABr (decide (c < 0)) _ _
  rw [h]
  show ABr _ _ _
  refine ⟨fun _=>?_,fun h=>absurd h (by decide)⟩
  show ARet _ _ _
  exact ⟨[],[],_,.cons _ _ _ _ (.agg _ _ (.cons _ _ _ _ (.nilsl .int) (.cons _ _ _ _ (.nilsl .page) (.cons _ _ _ _ (.nilsl .int) (.cons _ _ _ _ (.nilsl .int) (.cons _ _ _ _ (.nilsl .int) (.cons _ _ _ _ (.nilsl .bool) .nil))))))) (.cons _ _ _ _ .same .nil),.nil,rfl,rfl,rfl⟩
 ·have hc0:=of_decide_eq_false h
  show ABr (decide (c≥(g.cards.length:Int))) _ _
  refine ⟨fun h=>?_,fun h=>?_⟩
  ·have hE:=ho (by have:=of_decide_eq_true h;omega)
   rw [show cleanH g c=Hp.zero from by unfold cleanH;rw [hE];rfl,hE]
   show ARet _ _ _
   exact ⟨[],[],_,.cons _ _ _ _ (.agg _ _ (.cons _ _ _ _ (.nilsl .int) (.cons _ _ _ _ (.nilsl .page) (.cons _ _ _ _ (.nilsl .int) (.cons _ _ _ _ (.nilsl .int) (.cons _ _ _ _ (.nilsl .int) (.cons _ _ _ _ (.nilsl .bool) .nil))))))) (.cons _ _ _ _ .same .nil),.nil,rfl,rfl,rfl⟩
  ·have hin:0≤c∧c < (g.cards.length:Int):=by have:=of_decide_eq_false h;omega
   have hE:cleanE g c=0:=by unfold cleanE;rw [hm,decide_eq_true hin];rfl
   rw [show cleanH g c=cset g c false from by unfold cleanH;rw [hE];rfl,hE]
   show ACall _ _ _ _ _ _
   refine call_ret (cset_spec g c false hl hs hin) rfl ?_
   show ARet _ _ _
   exact ret_d rfl ⟨rfl,rfl⟩
theorem may_cset (g:Hp) (c:Int) (b:Bool) (cs:List Lists):mayH (cset g c b) cs=mayH g cs:=by
 have hs:shapedH (cset g c b)=shapedH g:=by unfold shapedH cset;simp only [List.length_set]
 unfold mayH
 rw [hs]
 rfl
theorem whole_cset (g:Hp) (c:Int) (b:Bool) (cs:List Lists):wholeH (cset g c b) cs=wholeH g cs:=by
 unfold wholeH
 rw [may_cset]
 rfl
theorem used_cset (g:Hp) (c:Int) (b:Bool):usedH (cset g c b)=usedH g:=by
 unfold usedH
 rw [may_cset]
 rfl
theorem headE_cset (g:Hp) (c:Int) (b:Bool) (a:Int):headE (cset g c b) a=headE g a:=by
 unfold headE
 rw [may_cset]
 rfl
theorem headH_cset (g:Hp) (c:Int) (b:Bool) (a:Int):headH (cset g c b) a=headH g a:=by
 unfold headH
 rw [headE_cset]
 rfl
theorem cardE_cset (g:Hp) (c:Int) (b:Bool) (a:Int):cardE (cset g c b) a=cardE g a:=by
 unfold cardE
 rw [may_cset]
 rfl
theorem cardOf_cset (g:Hp) (c:Int) (b:Bool) (a:Int):cardOf (cset g c b) a=cardOf g a:=by
 unfold cardOf
 rw [cardE_cset]
theorem cset_len (g:Hp) (c:Int) (b:Bool):(cset g c b).cards.length=g.cards.length:=by unfold cset;simp
theorem dirtyH_yes {g:Hp} {a:Int} (h:cardE g a=0):dirtyH g a=cset g (cardOf g a) true:=by unfold dirtyH;rw [h];rfl
theorem cleanH_yes {g:Hp} {c:Int} (h:cleanE g c=0):cleanH g c=cset g c false:=by unfold cleanH;rw [h];rfl
end Go.Abs
namespace Go.Abs
open Go.Proofs Go.Proofs.YtejnngjfjaeiiaaGreatDoor
set_option maxRecDepth 8000
def colour (c:Col) (x:Hd):Int:=bif (bif (bif (bif x.old then !c.major else false) then true else decide (c.epoch < 0)) then true else decide (c.epoch > 1048576)) then 0 else (bif decide (x.mark < c.epoch) then 1 else (bif x.done then 3 else 2))
def atK (g:Hp) (c:Col) (a:Int):Int:=bif decide (headE g a=0) then colour c (headH g a) else 0
def greyH (g:Hp) (c:Col):List Int:=(usedH g).filter fun a=>decide (atK g c a=2)
theorem colour_spec (c:Col) (x:Hd):Spec X 213 [] [c.tv,x.tv] (Ret [] (.int (colour c x))):=by
 refine spec_go X_ok Tryz.f213 (by kernel_rfl) (by kernel_rfl) (by kernel_rfl) fun hb hH=>⟨rfl,?_⟩
 unfold colour
 obtain ⟨u,o,d,n,b,m⟩:=x
 show ABr ((bif o then !c.major else false)) _ _
 refine ⟨fun h=>?_,fun h=>?_⟩
 ·rw [h]
  show ABr _ _ _
  refine ⟨fun _=>?_,fun h=>absurd h (by decide)⟩
  show ARet _ _ _
  exact ret_d rfl ⟨rfl,rfl⟩
 ·rw [h]
  show ABr ((decide (c.epoch < 0))) _ _
  refine ⟨fun h=>?_,fun h=>?_⟩
  ·rw [h]
   show ABr _ _ _
   refine ⟨fun _=>?_,fun h=>absurd h (by decide)⟩
   show ARet _ _ _
   exact ret_d rfl ⟨rfl,rfl⟩
  ·rw [h]
   show ABr ((decide (c.epoch > 1048576))) _ _
   refine ⟨fun h=>?_,fun h=>?_⟩
   ·rw [h]
    show ARet _ _ _
    exact ret_d rfl ⟨rfl,rfl⟩
   ·rw [h]
    show ABr ((decide (m < c.epoch))) _ _
    refine ⟨fun h=>?_,fun h=>?_⟩
    ·rw [h]
     show ARet _ _ _
     exact ret_d rfl ⟨rfl,rfl⟩
    ·rw [h]
     show ABr (d) _ _
     refine ⟨fun h=>?_,fun h=>?_⟩
     ·rw [h]
      show ARet _ _ _
      exact ret_d rfl ⟨rfl,rfl⟩
     ·rw [h]
      show ARet _ _ _
      exact ret_d rfl ⟨rfl,rfl⟩
theorem at_spec (g:Hp) (c:Col) (a:Int) (hl:g.light):Spec X 170 [] [g.tv,c.tv,.int a] (Ret [] (.tup [(headH g a).tv,.int (atK g c a)])):=by
 refine spec_go X_ok Tryz.f170 (by kernel_rfl) (by kernel_rfl) (by kernel_rfl) fun hb hH=>⟨rfl,?_⟩
 show ACall _ _ _ _ _ _
 refine call_ret (hHead_spec g a hl) rfl ?_
 show ABr (headE g a != 0) _ _
 refine ⟨fun h=>?_,fun h=>?_⟩
 ·have hE:headE g a≠0:=by simpa using h
  rw [show atK g c a=0 from by unfold atK;rw [decide_eq_false hE];rfl]
  show ARet _ _ _
  exact ret_d rfl ⟨rfl,rfl⟩
 ·have hE:headE g a=0:=by simpa using h
  rw [show atK g c a=colour c (headH g a) from by unfold atK;rw [decide_eq_true hE];rfl]
  show ADCall _ _ _ _ _ _
  refine .mk _ _ (colour_spec c (headH g a)) rfl ?_
  show ARet _ _ _
  exact ret_d rfl ⟨rfl,rfl⟩
theorem CloneIntsOwnZ_spec (l:List Int) (h:l.length≤most):Spec X 78 [] [.c (.d (.sl .int l))] (Ret [(0,.data .int l)] (.c (.own 0))):=by
 refine spec_go X_ok Tryz.f78 (by kernel_rfl) (by kernel_rfl) (by kernel_rfl) fun hb _=>⟨rfl,?_⟩
 intro b (hnil:b=true→l=[])
 show ABr _ _ _
 refine ⟨fun hb=>?_,fun hb=>?_⟩
 ·have hl:=hnil hb
  subst hl
  show ARet _ _ _
  exact ⟨[],[(0,.data .int [])],[.c (.own 0)],.cons _ _ _ _ (.c _ _ (.nilown 0 .int rfl rfl)) .nil,.new 0 .int _ rfl .nil,rfl,rfl,rfl⟩
 show AOb (0+l.length≤most) _
 refine ⟨by omega,?_⟩
 show ARet _ _ _
 exact ⟨[(_,0)],[(0,.data .int l)],[.c (.own 0)],.cons _ _ _ _ (.c _ _ (.own1 _ _)) .nil,.old 0 _ _ _ _ rfl rfl (.data_eq rfl) .nil,rfl,rfl,rfl⟩
def Col.own (c:Col):TV:=.agg [.d (DV.int c.phase),.d (DV.int c.epoch),.d (DV.bo c.major),.own 0,.d (DV.bo c.over),.d (DV.int c.at_),.d (DV.int c.field_),.d (DV.int c.seek),.d (DV.int c.card),.d (DV.bo c.met)]
theorem cown_spec (c:Col) (h:c.work.length≤most):Spec X 188 [] [c.tv] (Ret [(0,.data .int c.work)] c.own):=by
 refine spec_go X_ok Tryz.f188 (by kernel_rfl) (by kernel_rfl) (by kernel_rfl) fun hb hH=>⟨rfl,?_⟩
 show ACall _ _ _ _ _ _
 refine .mk _ (CloneIntsOwnZ_spec c.work h) fun H r hq _ _=>?_
 obtain ⟨rfl,rfl⟩:=hq
 refine ⟨.inl rfl,?_⟩
 show ARet _ _ _
 exact ⟨[(_,0)],[(0,.data .int c.work)],[c.own],.cons _ _ _ _ (.agg _ _ (.cons _ _ _ _ (.d _) (.cons _ _ _ _ (.d _) (.cons _ _ _ _ (.d _) (.cons _ _ _ _ (.own1 _ _) (.cons _ _ _ _ (.d _) (.cons _ _ _ _ (.d _) (.cons _ _ _ _ (.d _) (.cons _ _ _ _ (.d _) (.cons _ _ _ _ (.d _) (.cons _ _ _ _ (.d _) .nil))))))))))) .nil,.old 0 _ _ _ _ rfl rfl (.data_eq rfl) .nil,rfl,rfl,rfl⟩
def Hp.small (g:Hp):Prop:=g.w.length≤most∧g.pages.length≤most∧g.cards.length≤most∧g.free.l0.length≤most∧g.free.l1.length≤most∧g.free.l2.length≤most
theorem copied_spec (g:Hp) (hs:g.small):Spec X 189 [] [g.tv] (Ret [] g.tv):=by
 refine spec_go X_ok Tryz.f189 (by kernel_rfl) (by kernel_rfl) (by kernel_rfl) fun hb hH=>⟨rfl,?_⟩
 obtain ⟨h1,h2,h3,h4,h5,h6⟩:=hs
 show ADCall _ _ _ _ _ _
 refine .mk _ _ (CloneInts_spec g.w h1) rfl ?_
 show ADCall _ _ _ _ _ _
 refine .mk _ _ (ClonePages_spec g.pages h2) rfl ?_
 show ADCall _ _ _ _ _ _
 refine .mk _ _ (CloneBools_spec g.cards h3) rfl ?_
 show ∃ n,_
 refine ⟨4,?_⟩
 show ALoop _ _ _ _
 refine .next ?_
 show ABr _ _ _
 refine ⟨fun _=>?_,fun h=>absurd h (by decide)⟩
 show AOb _ _
 refine ⟨by decide,?_⟩
 show ACall _ _ _ _ _ _
 refine call_ret (CloneInts_spec g.free.l0 h4) rfl ?_
 show AOb _ _
 refine ⟨by decide,?_⟩
 show ALoop _ _ _ _
 refine .next ?_
 show ABr _ _ _
 refine ⟨fun _=>?_,fun h=>absurd h (by decide)⟩
 show AOb _ _
 refine ⟨by decide,?_⟩
 show ACall _ _ _ _ _ _
 refine call_ret (CloneInts_spec g.free.l1 h5) rfl ?_
 show AOb _ _
 refine ⟨by decide,?_⟩
 show ALoop _ _ _ _
 refine .next ?_
 show ABr _ _ _
 refine ⟨fun _=>?_,fun h=>absurd h (by decide)⟩
 show AOb _ _
 refine ⟨by decide,?_⟩
 show ACall _ _ _ _ _ _
 refine call_ret (CloneInts_spec g.free.l2 h6) rfl ?_
 show AOb _ _
 refine ⟨by decide,?_⟩
 show ALoop _ _ _ _
 refine .next ?_
 show ABr _ _ _
 refine ⟨fun h=>absurd h (by decide),fun _=>?_⟩
 show ARet _ _ _
 exact ret_d rfl ⟨rfl,rfl⟩
def markH (g:Hp) (c:Col) (a:Int):Hd:={ headH g a with mark:=c.epoch,done:=false }
def shadeG (g:Hp) (c:Col) (a:Int):Hp:=bif decide (atK g c a=1) then setH g a (markH g c a) else g
def shadeC (g:Hp) (c:Col) (a:Int):Col:=bif decide (atK g c a=1) then (bif decide ((c.work.length:Int) < 4) then { c with work:=c.work ++ [a] } else { c with over:=true }) else c
def doneH (g:Hp) (a:Int):Hd:={ headH g a with done:=true }
def blackG (g:Hp) (c:Col) (a:Int):Hp:=bif decide (atK g c a=2) then setH g a (doneH g a) else g
theorem Shade_spec (g:Hp) (c:Col) (a:Int) (hl:g.light) (hs:g.small) (hw:c.work.length < most):Spec X 144 [] [g.tv,c.tv,.int a] (Ret [] (.tup [(shadeG g c a).tv,(shadeC g c a).tv])):=by
 refine spec_go X_ok Tryz.f144 (by kernel_rfl) (by kernel_rfl) (by kernel_rfl) fun hb hH=>⟨rfl,?_⟩
 show ACall _ _ _ _ _ _
 refine call_ret (at_spec g c a hl) rfl ?_
 show ACall _ _ _ _ _ _
 refine .mk _ (cown_spec c (by omega)) fun H r hq _ _=>?_
 obtain ⟨rfl,rfl⟩:=hq
 refine ⟨.inl rfl,?_⟩
 show ABr (atK g c a != 1) _ _
 refine ⟨fun h=>?_,fun h=>?_⟩
 ·have hk:atK g c a≠1:=by simpa using h
  have e1:shadeG g c a=g:=by unfold shadeG;rw [decide_eq_false hk];rfl
  have e2:shadeC g c a=c:=by unfold shadeC;rw [decide_eq_false hk];rfl
  rw [e1,e2]
  show ADCall _ _ _ _ _ _
  refine .mk _ _ (copied_spec g hs) rfl ?_
  show ARet _ _ _
  exact ⟨[],[],_,.cons _ _ _ _ (.agg _ _ (.cons _ _ _ _ (.d _) (.cons _ _ _ _ (.d _) (.cons _ _ _ _ (.d _) (.cons _ _ _ _ (.d _) (.cons _ _ _ _ (.d _) (.cons _ _ _ _ (.d _) .nil))))))) (.cons _ _ _ _ (.agg _ _ (.cons _ _ _ _ (.d _) (.cons _ _ _ _ (.d _) (.cons _ _ _ _ (.d _) (.cons _ _ _ _ (.frz_eq (k:=.int) (l:=c.work) rfl rfl) (.cons _ _ _ _ (.d _) (.cons _ _ _ _ (.d _) (.cons _ _ _ _ (.d _) (.cons _ _ _ _ (.d _) (.cons _ _ _ _ (.d _) (.cons _ _ _ _ (.d _) .nil))))))))))) .nil),.nil,rfl,rfl,rfl⟩
 ·have hk:atK g c a=1:=by simpa using h
  have e1:shadeG g c a=setH g a (markH g c a):=by unfold shadeG;rw [decide_eq_true hk];rfl
  have e2:shadeC g c a=(bif decide ((c.work.length:Int) < 4) then { c with work:=c.work ++ [a] } else { c with over:=true }):=by unfold shadeC;rw [decide_eq_true hk];rfl
  rw [e1,e2]
  show ACall _ _ _ _ _ _
  refine call_ret (hSet_spec g a (markH g c a) hl) rfl ?_
  show ABr (decide ((c.work.length:Int) < 4)) _ _
  refine ⟨fun h=>?_,fun h=>?_⟩
  ·rw [h]
   show AOb (c.work.length+1≤most) _
   refine ⟨by omega,?_⟩
   show ARet _ _ _
   exact ⟨[],[],_,.cons _ _ _ _ (.agg _ _ (.cons _ _ _ _ (.d _) (.cons _ _ _ _ (.d _) (.cons _ _ _ _ (.d _) (.cons _ _ _ _ (.d _) (.cons _ _ _ _ (.d _) (.cons _ _ _ _ (.d _) .nil))))))) (.cons _ _ _ _ (.agg _ _ (.cons _ _ _ _ (.d _) (.cons _ _ _ _ (.d _) (.cons _ _ _ _ (.d _) (.cons _ _ _ _ (.frz_eq (k:=.int) (l:=c.work ++ [a]) rfl rfl) (.cons _ _ _ _ (.d _) (.cons _ _ _ _ (.d _) (.cons _ _ _ _ (.d _) (.cons _ _ _ _ (.d _) (.cons _ _ _ _ (.d _) (.cons _ _ _ _ (.d _) .nil))))))))))) .nil),.nil,rfl,rfl,rfl⟩
  ·rw [h]
   show ARet _ _ _
   exact ⟨[],[],_,.cons _ _ _ _ (.agg _ _ (.cons _ _ _ _ (.d _) (.cons _ _ _ _ (.d _) (.cons _ _ _ _ (.d _) (.cons _ _ _ _ (.d _) (.cons _ _ _ _ (.d _) (.cons _ _ _ _ (.d _) .nil))))))) (.cons _ _ _ _ (.agg _ _ (.cons _ _ _ _ (.d _) (.cons _ _ _ _ (.d _) (.cons _ _ _ _ (.d _) (.cons _ _ _ _ (.frz_eq (k:=.int) (l:=c.work) rfl rfl) (.cons _ _ _ _ (.d _) (.cons _ _ _ _ (.d _) (.cons _ _ _ _ (.d _) (.cons _ _ _ _ (.d _) (.cons _ _ _ _ (.d _) (.cons _ _ _ _ (.d _) .nil))))))))))) .nil),.nil,rfl,rfl,rfl⟩
theorem shBlack_spec (g:Hp) (c:Col) (a:Int) (hl:g.light) (hs:g.small):Spec X 148 [] [g.tv,c.tv,.int a] (Ret [] (.tup [(blackG g c a).tv,.bo (decide (atK g c a=2))])):=by
 refine spec_go X_ok Tryz.f148 (by kernel_rfl) (by kernel_rfl) (by kernel_rfl) fun hb hH=>⟨rfl,?_⟩
 show ACall _ _ _ _ _ _
 refine call_ret (at_spec g c a hl) rfl ?_
 show ABr (atK g c a != 2) _ _
 refine ⟨fun h=>?_,fun h=>?_⟩
 ·have hk:atK g c a≠2:=by simpa using h
  have e1:blackG g c a=g:=by unfold blackG;rw [decide_eq_false hk];rfl
  rw [e1,decide_eq_false hk]
  show ACall _ _ _ _ _ _
  refine call_ret (copied_spec g hs) rfl ?_
  show ARet _ _ _
  exact ret_d rfl ⟨rfl,rfl⟩
 ·have hk:atK g c a=2:=by simpa using h
  have e1:blackG g c a=setH g a (doneH g a):=by unfold blackG;rw [decide_eq_true hk];rfl
  rw [e1,decide_eq_true hk]
  show ACall _ _ _ _ _ _
  refine call_ret (hSet_spec g a (doneH g a) hl) rfl ?_
  show ARet _ _ _
  exact ret_d rfl ⟨rfl,rfl⟩
end Go.Abs
namespace Go.Abs
open Go.Proofs Go.Proofs.YtejnngjfjaeiiaaGreatDoor
set_option maxRecDepth 8000
theorem list_same {α:Type} [Inhabited α] {a b:List α} (hl:a.length=b.length) (h:∀ j,j < a.length→a.getD j default=b.getD j default):a=b:=by
 apply List.ext_getElem hl
 intro i h1 h2
 have:=h i h1
 rw [List.getD_eq_getElem?_getD,List.getD_eq_getElem?_getD,List.getElem?_eq_getElem h1,List.getElem?_eq_getElem h2] at this
 exact this
theorem page_same (p q:Page):(p.kind == q.kind && (p.arg == q.arg && true))=decide (p=q):=by
 obtain ⟨a,b⟩:=p
 obtain ⟨c,d⟩:=q
 rw [Bool.eq_iff_iff]
 simp
theorem pSame_spec (a b:List Page):Spec X 62 [] [.c (.d (.sl .page a)),.c (.d (.sl .page b))] (Ret [] (.bo (decide (a=b)))):=by
 refine spec_go X_ok Tryz.f62 (by kernel_rfl) (by kernel_rfl) (by kernel_rfl) fun hb hH=>⟨rfl,?_⟩
 have hla:a.length≤maxN:=(hb (.c (.d (.sl .page a))) (by simp)).1
 unfold maxN at hla
 show ABr ((a.length:Int) != (b.length:Int)) _ _
 refine ⟨fun h=>?_,fun h=>?_⟩
 ·show ARet _ _ _
  refine ret_bo (x:=false) ?_ ⟨rfl,rfl⟩
  symm
  apply decide_eq_false
  intro e
  subst e
  simp at h
 ·have hlen:a.length=b.length:=by simp at h;omega
  show ∃ n,_
  refine ⟨0,ALoop.inv (ι:={i:Nat // i≤a.length∧∀ j,j < i→a.getD j default=b.getD j default}) (fun i=>⟨[(0,.c (.d (.sl .page a))),(1,.c (.d (.sl .page b))),(5,.int i.1)],[],32⟩) (fun i=>a.length - i.1) ⟨0,Nat.zero_le _,fun j hj=>absurd hj (by omega)⟩ ?_ ?_⟩
  ·exact ⟨[],.cons _ _ _ .same (.cons _ _ _ .same (.cons _ _ _ .same .nil)),.nil,rfl⟩
  ·rintro ⟨i,hi,hn⟩
   show ABr (decide ((i:Int) < (a.length:Int))) _ _
   refine ⟨fun h=>?_,fun h=>?_⟩
   ·have hlt:i < a.length:=by simpa using h
    show AOb ((0:Int)≤(i:Int)∧(i:Int) < (a.length:Int)) _
    refine ⟨by omega,?_⟩
    show AOb ((0:Int)≤(i:Int)∧(i:Int) < (b.length:Int)) _
    refine ⟨by omega,?_⟩
    show ABr (!((a.getD i default).kind == (b.getD i default).kind && ((a.getD i default).arg == (b.getD i default).arg && true))) _ _
    rw [page_same]
    refine ⟨fun h=>?_,fun h=>?_⟩
    ·have hne:a.getD i default≠b.getD i default:=by simpa using h
     show ARet _ _ _
     refine ret_bo (x:=false) ?_ ⟨rfl,rfl⟩
     symm
     apply decide_eq_false
     intro e
     subst e
     exact hne rfl
    ·have heq:a.getD i default=b.getD i default:=by simpa using h
     show ARound _ _ _ _
     exact ⟨⟨i+1,hlt,fun j hj=>by
      by_cases e:j=i
      ·subst e;exact heq
      ·exact hn j (by omega)⟩,by show a.length - (i+1) < a.length - i;omega,[],.cons _ _ _ .same (.cons _ _ _ .same (.cons _ _ _ (.int_eq (wrapP (i:=i) (by unfold maxN;omega))) .nil)),.nil,rfl⟩
   ·have hge:i=a.length:=by simp at h;omega
    show ARet _ _ _
    refine ret_bo (x:=true) ?_ ⟨rfl,rfl⟩
    symm
    apply decide_eq_true
    exact list_same hlen (by rw [← hge];exact hn)
theorem hp_same (a b:Hp):decide (a=b)=(decide (a.w=b.w) && (decide (a.pages=b.pages) && (decide (a.free=b.free) && decide (a.cards=b.cards)))):=by
 obtain ⟨a1,a2,a3,a4⟩:=a
 obtain ⟨b1,b2,b3,b4⟩:=b
 rw [Bool.eq_iff_iff]
 simp
theorem hSame_spec (a b:Hp):Spec X 20 [] [a.tv,b.tv] (Ret [] (.bo (decide (a=b)))):=by
 refine spec_go X_ok Tryz.f20 (by kernel_rfl) (by kernel_rfl) (by kernel_rfl) fun hb hH=>⟨rfl,?_⟩
 have hla:a.cards.length≤maxN:=((hb (a.tv) (by simp)) (.d (.sl .bool a.cards)) (by simp [Hp.enc])).1
 unfold maxN at hla
 show ACall _ _ _ _ _ _
 refine call_ret (Ints_spec a.w b.w) rfl ?_
 show ACall _ _ _ _ _ _
 refine call_ret (pSame_spec a.pages b.pages) rfl ?_
 show ACall _ _ _ _ _ _
 refine call_ret (rSame_spec a.free b.free) rfl ?_
 rw [hp_same]
 show ABr (bif (bif (bif !decide (a.w=b.w) then true else !decide (a.pages=b.pages)) then true else !decide (a.free=b.free)) then true else (a.cards.length:Int) != (b.cards.length:Int)) _ _
 generalize decide (a.w=b.w)=b1
 generalize decide (a.pages=b.pages)=b2
 generalize decide (a.free=b.free)=b3
 refine ⟨fun h=>?_,fun h=>?_⟩
 ·show ARet _ _ _
  refine ret_bo (x:=false) ?_ ⟨rfl,rfl⟩
  cases b1 <;> cases b2 <;> cases b3 <;> try rfl
  symm
  simp only [Bool.true_and]
  apply decide_eq_false
  intro e
  rw [e] at h
  simp at h
 ·have hb3:b1=true∧b2=true∧b3=true∧a.cards.length=b.cards.length:=by
   cases b1 <;> cases b2 <;> cases b3 <;> simp at h
   exact ⟨rfl,rfl,rfl,by omega⟩
  obtain ⟨rfl,rfl,rfl,hlen⟩:=hb3
  show ∃ n,_
  refine ⟨0,ALoop.inv (ι:={i:Nat // i≤a.cards.length∧∀ j,j < i→a.cards.getD j default=b.cards.getD j default}) (fun i=>⟨[(2,.c (.d (.rp a.enc))),(3,.c (.d (.rp b.enc))),(8,.int i.1)],[],32⟩) (fun i=>a.cards.length - i.1) ⟨0,Nat.zero_le _,fun j hj=>absurd hj (by omega)⟩ ?_ ?_⟩
  ·exact ⟨[],.cons _ _ _ (.c _ _ (.frz _ _ rfl)) (.cons _ _ _ (.c _ _ (.frz _ _ rfl)) (.cons _ _ _ .same .nil)),.nil,rfl⟩
  ·rintro ⟨i,hi,hn⟩
   show ABr (decide ((i:Int) < (a.cards.length:Int))) _ _
   refine ⟨fun h=>?_,fun h=>?_⟩
   ·have hlt:i < a.cards.length:=by simpa using h
    show AOb ((0:Int)≤(i:Int)∧(i:Int) < (a.cards.length:Int)) _
    refine ⟨by omega,?_⟩
    show AOb ((0:Int)≤(i:Int)∧(i:Int) < (b.cards.length:Int)) _
    refine ⟨by omega,?_⟩
    show ABr (a.cards.getD i default != b.cards.getD i default) _ _
    refine ⟨fun h=>?_,fun h=>?_⟩
    ·have hne:a.cards.getD i default≠b.cards.getD i default:=fun e=>by rw [e] at h;simp at h
     show ARet _ _ _
     refine ret_bo (x:=false) ?_ ⟨rfl,rfl⟩
     symm
     simp only [Bool.true_and]
     apply decide_eq_false
     intro e
     rw [e] at hne
     exact hne rfl
    ·have heq:a.cards.getD i default=b.cards.getD i default:=bne_eq_false_iff_eq.1 h
     show ARound _ _ _ _
     exact ⟨⟨i+1,hlt,fun j hj=>by
      by_cases e:j=i
      ·subst e;exact heq
      ·exact hn j (by omega)⟩,by show a.cards.length - (i+1) < a.cards.length - i;omega,[],.cons _ _ _ .same (.cons _ _ _ .same (.cons _ _ _ (.int_eq (wrapP (i:=i) (by unfold maxN;omega))) .nil)),.nil,rfl⟩
   ·have hge:i=a.cards.length:=by simp at h;omega
    show ARet _ _ _
    refine ret_bo (x:=true) ?_ ⟨rfl,rfl⟩
    symm
    simp only [Bool.true_and]
    apply decide_eq_true
    exact list_same hlen (by rw [← hge];exact hn)
end Go.Abs
namespace Go.Abs
open Go.Proofs Go.Proofs.YtejnngjfjaeiiaaGreatDoor
set_option maxRecDepth 8000
theorem col_same (a b:Col):decide (a=b)=(bif (bif (bif (bif (bif (bif decide (a.work=b.work) then (bif (bif (bif a.phase == b.phase then a.epoch == b.epoch else false) then a.major == b.major else false) then a.over == b.over else false) else false) then a.at_ == b.at_ else false) then a.field_ == b.field_ else false) then a.seek == b.seek else false) then a.card == b.card else false) then a.met == b.met else false):=by
 obtain ⟨a1,a2,a3,a4,a5,a6,a7,a8,a9,a10⟩:=a
 obtain ⟨b1,b2,b3,b4,b5,b6,b7,b8,b9,b10⟩:=b
 rw [Bool.eq_iff_iff]
 simp [Bool.cond_eq_ite]
 constructor
 ·rintro ⟨h1,h2,h3,h4,h5,h6,h7,h8,h9,h10⟩
  simp [*]
 ·intro h
  simp [h]
theorem cSame_spec (a b:Col):Spec X 21 [] [a.tv,b.tv] (Ret [] (.bo (decide (a=b)))):=by
 refine spec_go X_ok Tryz.f21 (by kernel_rfl) (by kernel_rfl) (by kernel_rfl) fun hb hH=>⟨rfl,?_⟩
 show ACall _ _ _ _ _ _
 refine call_ret (Ints_spec a.work b.work) rfl ?_
 rw [col_same]
 show ARet _ _ _
 exact ret_d rfl ⟨rfl,rfl⟩
theorem few_small {g:Hp} (h:fewH g=true):g.small:=by
 unfold fewH at h
 have:=of_decide_eq_true h
 unfold Hp.small most
 omega
def c11:Col:=⟨0,1,false,[],false,0,0,0,0,false⟩
end Go.Abs
namespace Go.Abs
open Go.Proofs Go.Proofs.YtejnngjfjaeiiaaGreatDoor
set_option maxRecDepth 8000
end Go.Abs
namespace Go.Abs
def inC (c:Col) (x:Hd):Prop:=(x.old=false∨c.major=true)∧0≤c.epoch∧c.epoch≤1048576
theorem colour_out {c:Col} {x:Hd}:(bif (bif (bif x.old then !c.major else false) then true else decide (c.epoch < 0)) then true else decide (c.epoch > 1048576))=false↔inC c x:=by
 unfold inC
 cases x.old <;> cases c.major <;> simp [Bool.cond_eq_ite] <;> omega
theorem colour_iff {c : Col} {x : Hd} : (colour c x = 1 ↔ inC c x ∧ x.mark < c.epoch) ∧ (colour c x = 2 ↔ inC c x ∧ c.epoch ≤ x.mark ∧ x.done = false) ∧ (colour c x = 3 ↔ inC c x ∧ c.epoch ≤ x.mark ∧ x.done = true) := by
  unfold colour
  rw [← colour_out]
  generalize (bif (bif (bif x.old then !c.major else false) then true else decide (c.epoch < 0)) then true else decide (c.epoch > 1048576)) = q
  cases q with
  | true => simp
  | false =>
    by_cases h : x.mark < c.epoch
    · simp [h]
      omega
    · have h' : c.epoch ≤ x.mark := by omega
      cases x.done <;> simp [h, h']
theorem colour_nonneg (c:Col) (x:Hd):0≤colour c x∧colour c x≤3:=by
 unfold colour
 generalize (bif (bif (bif x.old then !c.major else false) then true else decide (c.epoch < 0)) then true else decide (c.epoch > 1048576))=q
 cases q <;> cases decide (x.mark < c.epoch) <;> cases x.done <;> decide
theorem atK_yes {g:Hp} {c:Col} {a:Int} (h:headE g a=0):atK g c a=colour c (headH g a):=by unfold atK;rw [decide_eq_true h];rfl
theorem atK_no {g:Hp} {c:Col} {a:Int} (h:headE g a≠0):atK g c a=0:=by unfold atK;rw [decide_eq_false h];rfl
theorem atK_ne {g:Hp} {c:Col} {a:Int} (h:atK g c a≠0):headE g a=0:=by
 by_cases h0:headE g a=0
 ·exact h0
 ·exact absurd (atK_no h0) h
theorem atK_nonneg (g:Hp) (c:Col) (a:Int):0≤atK g c a∧atK g c a≤3:=by
 by_cases h:headE g a=0
 ·rw [atK_yes h];exact colour_nonneg _ _
 ·rw [atK_no h];decide
theorem colour_col {c d:Col} (h1:d.epoch=c.epoch) (h2:d.major=c.major) (x:Hd):colour d x=colour c x:=by unfold colour;rw [h1,h2]
theorem atK_col {c d:Col} (h1:d.epoch=c.epoch) (h2:d.major=c.major) (g:Hp) (a:Int):atK g d a=atK g c a:=by unfold atK;rw [colour_col h1 h2]
theorem head_may {g:Hp} {a:Int} (h:headE g a=0):(headH g a).May∧(headH g a).used=true:=by
 obtain ⟨hm,hr,hu⟩:=headE_of h
 rw [headH_yes h]
 have hc:=(mayH_of hm).2.2.1 a (mem_starts.2 hr)
 unfold cellB at hc
 rw [Bool.and_eq_true] at hc
 obtain ⟨e,h2⟩:=isHd_unp hc.1
 rw [e]
 rw [e] at hu
 exact ⟨h2,hu⟩
theorem putok_of {g:Hp} {a:Int} {x:Hd} (h0:headE g a=0) (hx:x.May) (hu:x.used=true) (hn:x.n=(headH g a).n):PutOk g a x∧setE g a x=0:=by
 have h:setE g a x=0:=by unfold setE;rw [decide_eq_true h0,decide_eq_true ⟨hx,hu,hn⟩];rfl
 exact ⟨(setE_ok h).1,h⟩
theorem headE_may {g:Hp} (hm:mayH g []=true) (a:Int):headE g a=0∨headE g a=3:=by
 unfold headE
 rw [hm]
 cases decide (roomAt g.pages a=0) <;> cases (unp (wordAt g a)).used <;> simp
theorem put_head {g:Hp} {a:Int} {x:Hd} (h:PutOk g a x) (u:Int):headE (putH g a x.word) u=headE g u∧headH (putH g a x.word) u=if u=a then x else headH g u:=by
 have hm:=h.may
 have hm' : mayH (putH g a x.word) []=true:=by rw [may_put h];exact hm
 have hiff:headE (putH g a x.word) u=0↔headE g u=0:=by rw [← mem_usedH,← mem_usedH,used_put h]
 by_cases h0:headE g u=0
 ·obtain ⟨h1,h2⟩:=head_put h h0
  exact ⟨by rw [h1,h0],h2⟩
 ·have h0' : headE (putH g a x.word) u≠0:=fun e=>h0 (hiff.1 e)
  have e1:=headE_may hm u
  have e2:=headE_may hm' u
  refine ⟨by omega,?_⟩
  have hne:u≠a:=by
   intro e
   subst e
   apply h0
   unfold headE
   rw [hm,decide_eq_false h.room,h.used]
   rfl
  rw [if_neg hne,headH_no rfl h0',headH_no rfl h0]
theorem mark_may {g:Hp} {c:Col} {a:Int} (h:atK g c a=1):headE g a=0∧PutOk g a (markH g c a)∧setE g a (markH g c a)=0:=by
 have h0:headE g a=0:=atK_ne (c:=c) (by omega)
 rw [atK_yes h0] at h
 obtain ⟨⟨_,h1,h2⟩,h3⟩:=colour_iff.1.1 h
 obtain ⟨hm,hu⟩:=head_may h0
 have hx:(markH g c a).May:=by
  unfold Hd.May at hm ⊢
  rw [if_pos hu] at hm
  have hu' : (markH g c a).used=true:=hu
  rw [if_pos hu']
  exact ⟨hm.1,hm.2.1,h1,h2⟩
 exact ⟨h0,putok_of h0 hx hu rfl⟩
theorem shadeG_yes {g:Hp} {c:Col} {a:Int} (h:atK g c a=1):shadeG g c a=putH g a (markH g c a).word:=by
 unfold shadeG
 rw [decide_eq_true h]
 exact setH_yes (mark_may h).2.2
theorem shadeG_no {g:Hp} {c:Col} {a:Int} (h:atK g c a≠1):shadeG g c a=g:=by unfold shadeG;rw [decide_eq_false h];rfl
theorem shadeC_no {g:Hp} {c:Col} {a:Int} (h:atK g c a≠1):shadeC g c a=c:=by unfold shadeC;rw [decide_eq_false h];rfl
theorem shadeC_yes {g:Hp} {c:Col} {a:Int} (h:atK g c a=1):shadeC g c a=if c.work.length < 4 then { c with work:=c.work ++ [a] } else { c with over:=true }:=by
 unfold shadeC
 rw [decide_eq_true h]
 by_cases h4:c.work.length < 4
 ·rw [if_pos h4,decide_eq_true (show (c.work.length:Int) < 4 by omega)];rfl
 ·rw [if_neg h4,decide_eq_false (show ¬ (c.work.length:Int) < 4 by omega)];rfl
structure SameC (c d:Col):Prop where
 phase:d.phase=c.phase
 epoch:d.epoch=c.epoch
 major:d.major=c.major
 at_:d.at_=c.at_
 field_:d.field_=c.field_
 seek:d.seek=c.seek
 card:d.card=c.card
 met:d.met=c.met
theorem shadeC_same (g:Hp) (c:Col) (a:Int):SameC c (shadeC g c a):=by
 unfold shadeC
 cases decide (atK g c a=1)
 ·exact ⟨rfl,rfl,rfl,rfl,rfl,rfl,rfl,rfl⟩
 ·cases decide ((c.work.length:Int) < 4) <;> exact ⟨rfl,rfl,rfl,rfl,rfl,rfl,rfl,rfl⟩
theorem shadeG_head (g:Hp) (c:Col) (a u:Int):headE (shadeG g c a) u=headE g u∧headH (shadeG g c a) u=if u=a∧atK g c a=1 then markH g c a else headH g u:=by
 by_cases h:atK g c a=1
 ·rw [shadeG_yes h]
  obtain ⟨h1,h2⟩:=put_head (mark_may h).2.1 u
  refine ⟨h1,?_⟩
  rw [h2]
  by_cases e:u=a
  ·rw [if_pos e,if_pos ⟨e,h⟩]
  ·rw [if_neg e,if_neg (fun k=>e k.1)]
 ·rw [shadeG_no h,if_neg (fun k=>h k.2)]
  exact ⟨rfl,rfl⟩
theorem atK_shade (g:Hp) (c:Col) (a u:Int):atK (shadeG g c a) c u=if u=a∧atK g c a=1 then 2 else atK g c u:=by
 obtain ⟨h1,h2⟩:=shadeG_head g c a u
 by_cases h0:headE g u=0
 ·rw [atK_yes (h1.trans h0),h2]
  by_cases h:u=a∧atK g c a=1
  ·rw [if_pos h,if_pos h]
   have h3:=h.2
   rw [atK_yes (mark_may h.2).1] at h3
   have h4:=colour_iff.1.1 h3
   exact colour_iff.2.1.2 ⟨h4.1,Int.le_refl _,rfl⟩
  ·rw [if_neg h,if_neg h,atK_yes h0]
 ·rw [atK_no (fun e=>h0 (h1.symm.trans e)),atK_no h0,if_neg]
  rintro ⟨e,h⟩
  subst e
  exact h0 (mark_may h).1
theorem shadeG_may (g:Hp) (c:Col) (a:Int) (cs:List Lists):mayH (shadeG g c a) cs=mayH g cs:=by
 by_cases h:atK g c a=1
 ·rw [shadeG_yes h,may_put (mark_may h).2.1]
 ·rw [shadeG_no h]
theorem shadeG_whole (g:Hp) (c:Col) (a:Int) (cs:List Lists):wholeH (shadeG g c a) cs=wholeH g cs:=by
 by_cases h:atK g c a=1
 ·rw [shadeG_yes h,whole_put (mark_may h).2.1]
 ·rw [shadeG_no h]
theorem shadeG_used (g:Hp) (c:Col) (a:Int):usedH (shadeG g c a)=usedH g:=by
 by_cases h:atK g c a=1
 ·rw [shadeG_yes h,used_put (mark_may h).2.1]
 ·rw [shadeG_no h]
theorem shadeG_rest (g:Hp) (c:Col) (a:Int):(shadeG g c a).pages=g.pages∧(shadeG g c a).free=g.free∧(shadeG g c a).cards=g.cards∧(shadeG g c a).w.length=g.w.length:=by
 by_cases h:atK g c a=1
 ·rw [shadeG_yes h]
  exact ⟨rfl,rfl,rfl,List.length_set⟩
 ·rw [shadeG_no h]
  exact ⟨rfl,rfl,rfl,rfl⟩
theorem shadeG_word (g:Hp) (c:Col) (a:Int) (i:Nat) (h:(shadeG g c a).w.getD i default≠g.w.getD i default):(i:Int)=a - 16∧atK g c a=1:=by
 by_cases h1:atK g c a=1
 ·refine ⟨?_,h1⟩
  rw [shadeG_yes h1] at h
  have had:=room_adr (h:=g) (mark_may h1).2.1.room
  by_cases e:(a - 16).toNat=i
  ·have:=had.1;omega
  ·exfalso
   apply h
   show (g.w.set (a - 16).toNat _).getD i default=_
   rw [List.getD_eq_getElem?_getD,List.getD_eq_getElem?_getD,List.getElem?_set_ne e]
 ·rw [shadeG_no h1] at h
  exact absurd rfl h
theorem few_same {g k:Hp} (h1:k.w.length=g.w.length) (h2:k.pages=g.pages) (h3:k.free=g.free) (h4:k.cards.length=g.cards.length):fewH k=fewH g:=by unfold fewH;rw [h1,h2,h3,h4]
theorem shadeG_few (g:Hp) (c:Col) (a:Int):fewH (shadeG g c a)=fewH g:=by
 obtain ⟨h1,h2,h3,h4⟩:=shadeG_rest g c a
 exact few_same h4 h1 h2 (by rw [h3])
theorem done_may {g:Hp} {c:Col} {a:Int} (h:atK g c a=2):headE g a=0∧PutOk g a (doneH g a)∧setE g a (doneH g a)=0:=by
 have h0:headE g a=0:=atK_ne (c:=c) (by omega)
 obtain ⟨hm,hu⟩:=head_may h0
 have hx:(doneH g a).May:=by
  unfold Hd.May at hm ⊢
  rw [if_pos hu] at hm
  have hu' : (doneH g a).used=true:=hu
  rw [if_pos hu']
  exact hm
 exact ⟨h0,putok_of h0 hx hu rfl⟩
theorem blackG_yes {g:Hp} {c:Col} {a:Int} (h:atK g c a=2):blackG g c a=putH g a (doneH g a).word:=by
 unfold blackG
 rw [decide_eq_true h]
 exact setH_yes (done_may h).2.2
theorem blackG_no {g:Hp} {c:Col} {a:Int} (h:atK g c a≠2):blackG g c a=g:=by unfold blackG;rw [decide_eq_false h];rfl
theorem blackG_head (g:Hp) (c:Col) (a u:Int):headE (blackG g c a) u=headE g u∧headH (blackG g c a) u=if u=a∧atK g c a=2 then doneH g a else headH g u:=by
 by_cases h:atK g c a=2
 ·rw [blackG_yes h]
  obtain ⟨h1,h2⟩:=put_head (done_may h).2.1 u
  refine ⟨h1,?_⟩
  rw [h2]
  by_cases e:u=a
  ·rw [if_pos e,if_pos ⟨e,h⟩]
  ·rw [if_neg e,if_neg (fun k=>e k.1)]
 ·rw [blackG_no h,if_neg (fun k=>h k.2)]
  exact ⟨rfl,rfl⟩
theorem atK_black (g:Hp) (c:Col) (a u:Int):atK (blackG g c a) c u=if u=a∧atK g c a=2 then 3 else atK g c u:=by
 obtain ⟨h1,h2⟩:=blackG_head g c a u
 by_cases h0:headE g u=0
 ·rw [atK_yes (h1.trans h0),h2]
  by_cases h:u=a∧atK g c a=2
  ·rw [if_pos h,if_pos h]
   have h3:=h.2
   rw [atK_yes (done_may h.2).1] at h3
   have h4:=colour_iff.2.1.1 h3
   exact colour_iff.2.2.2 ⟨h4.1,h4.2.1,rfl⟩
  ·rw [if_neg h,if_neg h,atK_yes h0]
 ·rw [atK_no (fun e=>h0 (h1.symm.trans e)),atK_no h0,if_neg]
  rintro ⟨e,h⟩
  subst e
  exact h0 (done_may h).1
theorem blackG_may (g:Hp) (c:Col) (a:Int) (cs:List Lists):mayH (blackG g c a) cs=mayH g cs:=by
 by_cases h:atK g c a=2
 ·rw [blackG_yes h,may_put (done_may h).2.1]
 ·rw [blackG_no h]
theorem blackG_whole (g:Hp) (c:Col) (a:Int) (cs:List Lists):wholeH (blackG g c a) cs=wholeH g cs:=by
 by_cases h:atK g c a=2
 ·rw [blackG_yes h,whole_put (done_may h).2.1]
 ·rw [blackG_no h]
theorem blackG_used (g:Hp) (c:Col) (a:Int):usedH (blackG g c a)=usedH g:=by
 by_cases h:atK g c a=2
 ·rw [blackG_yes h,used_put (done_may h).2.1]
 ·rw [blackG_no h]
theorem blackG_rest (g:Hp) (c:Col) (a:Int):(blackG g c a).pages=g.pages∧(blackG g c a).free=g.free∧(blackG g c a).cards=g.cards∧(blackG g c a).w.length=g.w.length:=by
 by_cases h:atK g c a=2
 ·rw [blackG_yes h]
  exact ⟨rfl,rfl,rfl,List.length_set⟩
 ·rw [blackG_no h]
  exact ⟨rfl,rfl,rfl,rfl⟩
theorem blackG_word (g:Hp) (c:Col) (a:Int) (i:Nat) (h:(blackG g c a).w.getD i default≠g.w.getD i default):(i:Int)=a - 16∧atK g c a=2:=by
 by_cases h1:atK g c a=2
 ·refine ⟨?_,h1⟩
  rw [blackG_yes h1] at h
  have had:=room_adr (h:=g) (done_may h1).2.1.room
  by_cases e:(a - 16).toNat=i
  ·have:=had.1;omega
  ·exfalso
   apply h
   show (g.w.set (a - 16).toNat _).getD i default=_
   rw [List.getD_eq_getElem?_getD,List.getD_eq_getElem?_getD,List.getElem?_set_ne e]
 ·rw [blackG_no h1] at h
  exact absurd rfl h
theorem mem_grey {g:Hp} {c:Col} {u:Int}:u∈greyH g c↔atK g c u=2:=by
 unfold greyH
 rw [List.mem_filter,mem_usedH,decide_eq_true_eq]
 exact ⟨fun h=>h.2,fun h=>⟨atK_ne (c:=c) (by omega),h⟩⟩
end Go.Abs
namespace Go.Abs
open Go.Proofs Go.Proofs.YtejnngjfjaeiiaaGreatDoor
set_option maxRecDepth 8000
end Go.Abs
namespace Go.Abs
def inCell (a:Int) (x:Int × Int):Bool:=decide (x.1≤a∧a < x.1+x.2)
def cnt (L:List (Int × Int)) (a:Int):Nat:=(L.filter (inCell a)).length
theorem cnt_append (L M:List (Int × Int)) (a:Int):cnt (L ++ M) a=cnt L a+cnt M a:=by unfold cnt;rw [List.filter_append,List.length_append]
theorem cnt_none {L:List (Int × Int)} {a:Int} (h:∀ x∈L,inCell a x=false):cnt L a=0:=by
 unfold cnt
 rw [List.filter_eq_nil_iff.2 fun x hx=>by rw [h x hx];simp]
 rfl
def cellsRec:Nat→List Page→List (Int × Int)
 | _,[]=>[]
 | i,p :: r=>cellsOn p (16 * ((i:Int)+1)) ++ cellsRec (i+1) r
theorem cellsRec_from (l : List Page) : ∀ (n i : Nat), l.length - i = n → cellsFrom l i = cellsRec i (l.drop i)
  | 0, i, h => by
    rw [cellsFrom_end (by omega), List.drop_eq_nil_of_le (by omega)]
    rfl
  | n + 1, i, h => by
    have hi : i < l.length := by omega
    rw [cellsFrom_step hi, List.drop_eq_getElem_cons hi]
    show _ = cellsOn l[i] (16 * ((i : Int) + 1)) ++ cellsRec (i + 1) (l.drop (i + 1))
    rw [← cellsRec_from l n (i + 1) (by omega), List.getD_eq_getElem?_getD, List.getElem?_eq_getElem hi]
    rfl
theorem cellsRec_low : ∀ (ps : List Page) (i : Nat), (∀ p ∈ ps, pageOk p) → ∀ x ∈ cellsRec i ps, 16 * ((i : Int) + 1) ≤ x.1
  | [], _, _, x, h => by cases h
  | p :: r, i, hp, x, h => by
    rcases List.mem_append.1 h with h | h
    · unfold cellsOn at h
      split at h
      · rw [List.mem_singleton] at h
        subst h
        exact Int.le_refl _
      · split at h
        · rename_i h2 h1
          obtain ⟨k, _, rfl⟩ := List.mem_map.1 h
          have := clsWN ((hp p (List.mem_cons_self ..)).1 h1)
          rcases this with ⟨e, _⟩ | ⟨e, _⟩ | ⟨e, _⟩ <;> · simp only [e]; omega
        · cases h
    · have := cellsRec_low r (i + 1) (fun q hq => hp q (List.mem_cons_of_mem _ hq)) x h
      omega
theorem cnt_small {W N b a : Int} (hW : (W = 2 ∧ N = 8) ∨ (W = 4 ∧ N = 4) ∨ (W = 8 ∧ N = 2)) : cnt ((List.range N.toNat).map fun i : Nat => (b + (i : Int) * W, W)) a = if b ≤ a ∧ a < b + 16 then 1 else 0 := by
  have key : ∀ n : Nat, cnt ((List.range n).map fun i : Nat => (b + (i : Int) * W, W)) a = if b ≤ a ∧ a < b + (n : Int) * W then 1 else 0 := by
    intro n
    induction n with
    | zero => rw [if_neg (by omega)]; rfl
    | succ n ih =>
      rw [List.range_succ, List.map_append, cnt_append, ih]
      have e : cnt [(b + (n : Int) * W, W)] a = if b + (n : Int) * W ≤ a ∧ a < b + (n : Int) * W + W then 1 else 0 := by
        unfold cnt
        rw [List.filter_cons, List.filter_nil]
        unfold inCell
        by_cases h : b + (n : Int) * W ≤ a ∧ a < b + (n : Int) * W + W <;> simp [h]
      show _ + cnt [(b + (n : Int) * W, W)] a = _
      rw [e]
      have e2 : ((n + 1 : Nat) : Int) * W = (n : Int) * W + W := by rw [Int.natCast_add, Int.add_mul]; simp
      rw [e2]
      have h0 : 0 ≤ (n : Int) * W := Int.mul_nonneg (by omega) (by omega)
      have hWp : 0 < W := by omega
      generalize (n : Int) * W = m at *
      split <;> split <;> split <;> omega
  rw [key]
  rcases hW with ⟨rfl, rfl⟩ | ⟨rfl, rfl⟩ | ⟨rfl, rfl⟩ <;> rfl
theorem cnt_on {p:Page} {b a:Int} (hp:pageOk p) (hf:pageFits p=true):cnt (cellsOn p b) a=if p.kind=2 then (if b≤a∧a < b+p.arg * 16 then 1 else 0) else if p.kind=1 then (if b≤a∧a < b+16 then 1 else 0) else 0:=by
 unfold cellsOn
 by_cases h2:p.kind=2
 ·rw [if_pos h2,if_pos h2]
  unfold cnt
  rw [List.filter_cons,List.filter_nil]
  unfold inCell
  by_cases h:b≤a∧a < b+p.arg * 16 <;> simp [h]
 ·rw [if_neg h2,if_neg h2]
  by_cases h1:p.kind=1
  ·rw [if_pos h1,if_pos h1]
   exact cnt_small (clsWN (hp.1 h1))
  ·rw [if_neg h1,if_neg h1]
   rfl
def freeP (i:Nat) (ps:List Page) (a:Int):Nat:=if (ps.getD (a / 16 - 1 - (i:Int)).toNat default).kind=0 then 1 else 0
theorem tile : ∀ (ps : List Page) (i : Nat) (r : Int), pgo r ps = true → 0 ≤ r → (∀ p ∈ ps, pageOk p) → ∀ a, 16 * ((i : Int) + 1) ≤ a → a < 16 * ((i : Int) + 1 + (ps.length : Int)) →
    cnt (cellsRec i ps) a + freeP i ps a + (if a < 16 * ((i : Int) + 1 + r) then 1 else 0) = 1
  | [], i, r, _, _, _, a, h1, h2 => by simp at h2; omega
  | p :: ps, i, r, h, hr, hp, a, h1, h2 => by
    have hlow := cellsRec_low ps (i + 1) (fun q hq => hp q (List.mem_cons_of_mem _ hq))
    have hpp := hp p (List.mem_cons_self ..)
    have hl : ((p :: ps).length : Int) = (ps.length : Int) + 1 := by simp
    rw [hl] at h2
    have ih := fun r' (h' : pgo r' ps = true) (hr' : 0 ≤ r') => tile ps (i + 1) r' h' hr' (fun q hq => hp q (List.mem_cons_of_mem _ hq)) a
    show cnt (cellsOn p (16 * ((i : Int) + 1)) ++ cellsRec (i + 1) ps) a + _ + _ = 1
    rw [cnt_append]
    have hstep : 16 * ((i : Int) + 2) ≤ a → freeP i (p :: ps) a = freeP (i + 1) ps a := by
      intro ha
      unfold freeP
      have e : (a / 16 - 1 - (i : Int)).toNat = (a / 16 - 1 - ((i + 1 : Nat) : Int)).toNat + 1 := by omega
      rw [e]
      rfl
    have hhere : a < 16 * ((i : Int) + 2) → freeP i (p :: ps) a = (if p.kind = 0 then 1 else 0) ∧ cnt (cellsRec (i + 1) ps) a = 0 := by
      intro ha
      constructor
      · unfold freeP
        have e : (a / 16 - 1 - (i : Int)).toNat = 0 := by omega
        rw [e]
        rfl
      · refine cnt_none fun x hx => ?_
        have := hlow x hx
        unfold inCell
        apply decide_eq_false
        omega
    unfold pgo at h
    by_cases h3 : p.kind = 3
    · rw [decide_eq_true h3] at h
      simp only [cond_true, Bool.and_eq_true, Bool.not_eq_true', decide_eq_false_iff_not] at h
      have hc : cnt (cellsOn p (16 * ((i : Int) + 1))) a = 0 := by
        unfold cellsOn
        rw [if_neg (by omega), if_neg (by omega)]
        rfl
      rw [hc]
      by_cases ha : a < 16 * ((i : Int) + 2)
      · obtain ⟨e1, e2⟩ := hhere ha
        rw [e1, e2, if_neg (by omega), if_pos (by omega)]
      · have := ih (r - 1) h.2 (by omega) (by omega) (by omega)
        rw [hstep (by omega)]
        have e : (16 * (((i + 1 : Nat) : Int) + 1 + (r - 1))) = 16 * ((i : Int) + 1 + r) := by omega
        rw [e] at this
        omega
    · rw [decide_eq_false h3] at h
      simp only [cond_false, Bool.and_eq_true, Bool.not_eq_true', decide_eq_false_iff_not] at h
      obtain ⟨⟨hf, h0⟩, h⟩ := h
      have hr0 : r = 0 := by omega
      subst hr0
      rw [cnt_on hpp hf]
      have hk := of_decide_eq_true hf
      by_cases hk2 : p.kind = 2
      · rw [if_pos hk2] at h ⊢
        have hpa := hpp.2 hk2
        by_cases ha : a < 16 * ((i : Int) + 2)
        · obtain ⟨e1, e2⟩ := hhere ha
          rw [e1, e2, if_pos (by omega), if_neg (by omega), if_neg (by omega)]
        · have := ih (p.arg - 1) h (by omega) (by omega) (by omega)
          rw [hstep (by omega)]
          have e : (16 * (((i + 1 : Nat) : Int) + 1 + (p.arg - 1))) = 16 * ((i : Int) + 1 + p.arg) := by omega
          rw [e] at this
          by_cases hb : a < 16 * ((i : Int) + 1 + p.arg)
          · rw [if_pos hb] at this
            rw [if_pos (by omega), if_neg (by omega)]
            omega
          · rw [if_neg hb] at this
            rw [if_neg (by omega), if_neg (by omega)]
            omega
      · rw [if_neg hk2] at h ⊢
        by_cases ha : a < 16 * ((i : Int) + 2)
        · obtain ⟨e1, e2⟩ := hhere ha
          rw [e1, e2]
          by_cases hk1 : p.kind = 1
          · rw [if_pos hk1, if_pos (by omega), if_neg (by omega), if_neg (by omega)]
          · rw [if_neg hk1, if_pos (by omega), if_neg (by omega)]
        · have := ih 0 h (by omega) (by omega) (by omega)
          rw [hstep (by omega)]
          have e : (16 * (((i + 1 : Nat) : Int) + 1 + 0)) = 16 * ((i : Int) + 2) := by omega
          rw [e, if_neg (by omega)] at this
          rw [if_neg (show ¬ a < 16 * ((i : Int) + 1 + 0) by omega)]
          by_cases hk1 : p.kind = 1
          · rw [if_pos hk1, if_neg (by omega)]; omega
          · rw [if_neg hk1]; omega
end Go.Abs
namespace Go.Abs
def putP (l:List Page) (i:Nat) (o:List Page):List Page:=splice l i (o.take (l.length - i))
def sizeP (p:Page):Nat:=if p.kind=2 then p.arg.toNat else 1
def dropP (l:List Page) (i:Nat):List Page:=putP l i (List.replicate (sizeP (l.getD i default)) ⟨0,0⟩)
theorem putP_cat {l o:List Page} {i:Nat} (h:i+o.length≤l.length):putP l i o=l.take i ++ o ++ l.drop (i+o.length):=by
 unfold putP splice
 rw [List.take_of_length_le (l:=o) (by omega)]
theorem pgo_split : ∀ (n : Nat) (t : List Page), pgo (n : Int) t = true → n ≤ t.length ∧ pgo 0 (t.drop n) = true ∧ ∀ j, j < n → t.getD j default = ⟨3, 0⟩
  | 0, t, h => ⟨Nat.zero_le _, h, fun j hj => absurd hj (by omega)⟩
  | n + 1, [], h => by rw [pgo_nil (by omega)] at h; cases h
  | n + 1, q :: t, h => by
    rw [pgo_rest (by omega), Bool.and_eq_true] at h
    obtain ⟨h1, h2⟩ := h
    rw [show ((n + 1 : Nat) : Int) - 1 = (n : Int) by omega] at h2
    obtain ⟨k1, k2, k3⟩ := pgo_split n t h2
    refine ⟨by simp; omega, k2, fun j hj => ?_⟩
    cases j with
    | zero => exact of_decide_eq_true h1
    | succ j => exact k3 j (by omega)
theorem pgo_zeros (t : List Page) : ∀ n : Nat, pgo 0 (List.replicate n ⟨0, 0⟩ ++ t) = pgo 0 t
  | 0 => rfl
  | n + 1 => by
    rw [List.replicate_succ, List.cons_append]
    exact pgo_zeros t n
theorem pgo_drop : ∀ (l : List Page) (i : Nat) (r : Int), pgo r l = true → 0 ≤ r → i < l.length → (l.getD i default).kind = 1 ∨ (l.getD i default).kind = 2 →
    i + sizeP (l.getD i default) ≤ l.length ∧ 1 ≤ sizeP (l.getD i default) ∧ pgo r (l.take i ++ List.replicate (sizeP (l.getD i default)) ⟨0, 0⟩ ++ l.drop (i + sizeP (l.getD i default))) = true ∧ ∀ j, i < j → j < i + sizeP (l.getD i default) → l.getD j default = ⟨3, 0⟩
  | [], i, r, _, _, h, _ => absurd h (by simp)
  | p :: t, 0, r, h, hr, hi, hk => by
    have hk : p.kind = 1 ∨ p.kind = 2 := hk
    unfold pgo at h
    rw [decide_eq_false (show ¬ p.kind = 3 by omega)] at h
    simp only [cond_false, Bool.and_eq_true] at h
    obtain ⟨⟨h1, h2⟩, h3⟩ := h
    have hr0 : r = 0 := by simp at h2; omega
    subst hr0
    have hf := of_decide_eq_true h1
    show 0 + sizeP p ≤ (p :: t).length ∧ 1 ≤ sizeP p ∧ pgo 0 (List.take 0 (p :: t) ++ List.replicate (sizeP p) ⟨0, 0⟩ ++ (p :: t).drop (0 + sizeP p)) = true ∧ ∀ j, 0 < j → j < 0 + sizeP p → (p :: t).getD j default = ⟨3, 0⟩
    rcases hk with hk | hk
    · have hs : sizeP p = 1 := by unfold sizeP; rw [if_neg (by omega)]
      rw [if_neg (by omega)] at h3
      rw [hs]
      exact ⟨by simp, Nat.le_refl _, (pgo_zeros t 1).trans h3, fun j h1 h2 => absurd h2 (by omega)⟩
    · rw [if_pos hk] at h3
      have hs : sizeP p = p.arg.toNat := by unfold sizeP; rw [if_pos hk]
      have ha : 1 ≤ p.arg := by omega
      obtain ⟨n, hn⟩ : ∃ n : Nat, p.arg.toNat = n + 1 := ⟨p.arg.toNat - 1, by omega⟩
      rw [show p.arg - 1 = (n : Int) by omega] at h3
      obtain ⟨k1, k2, k3⟩ := pgo_split n t h3
      rw [hs, hn]
      refine ⟨by simp; omega, by omega, ?_, fun j h1 h2 => ?_⟩
      · rw [List.take_zero, List.nil_append, pgo_zeros, Nat.zero_add, List.drop_succ_cons]; exact k2
      · obtain ⟨m, rfl⟩ : ∃ m, j = m + 1 := ⟨j - 1, by omega⟩
        exact k3 m (by omega)
  | p :: t, i + 1, r, h, hr, hi, hk => by
    have hk : (t.getD i default).kind = 1 ∨ (t.getD i default).kind = 2 := hk
    have hi : i < t.length := by simpa using hi
    have step : ∀ r', pgo r' t = true → 0 ≤ r' → _ := fun r' h' hr' => pgo_drop t i r' h' hr' hi hk
    show i + 1 + sizeP (t.getD i default) ≤ (p :: t).length ∧ 1 ≤ sizeP (t.getD i default) ∧ pgo r (List.take (i + 1) (p :: t) ++ List.replicate (sizeP (t.getD i default)) ⟨0, 0⟩ ++ (p :: t).drop (i + 1 + sizeP (t.getD i default))) = true ∧ ∀ j, i + 1 < j → j < i + 1 + sizeP (t.getD i default) → (p :: t).getD j default = ⟨3, 0⟩
    have e : i + 1 + sizeP (t.getD i default) = (i + sizeP (t.getD i default)) + 1 := by omega
    rw [e, List.take_succ_cons, List.drop_succ_cons, List.cons_append, List.cons_append]
    unfold pgo at h ⊢
    cases h3 : decide (p.kind = 3) with
    | true =>
      rw [h3] at h
      simp only [cond_true, Bool.and_eq_true] at h ⊢
      obtain ⟨⟨h1, h2⟩, h4⟩ := h
      obtain ⟨s1, s2, s3, s4⟩ := step _ h4 (by simp at h1; omega)
      refine ⟨Nat.succ_le_succ s1, s2, ⟨⟨h1, h2⟩, s3⟩, fun j hj1 hj2 => ?_⟩
      obtain ⟨m, rfl⟩ : ∃ m, j = m + 1 := ⟨j - 1, by omega⟩
      exact s4 m (Nat.lt_of_succ_lt_succ hj1) (Nat.lt_of_succ_lt_succ hj2)
    | false =>
      rw [h3] at h
      simp only [cond_false, Bool.and_eq_true] at h ⊢
      obtain ⟨⟨h1, h2⟩, h4⟩ := h
      have hf := of_decide_eq_true h1
      obtain ⟨s1, s2, s3, s4⟩ := step _ h4 (by split <;> omega)
      refine ⟨Nat.succ_le_succ s1, s2, ⟨⟨h1, h2⟩, s3⟩, fun j hj1 hj2 => ?_⟩
      obtain ⟨m, rfl⟩ : ∃ m, j = m + 1 := ⟨j - 1, by omega⟩
      exact s4 m (Nat.lt_of_succ_lt_succ hj1) (Nat.lt_of_succ_lt_succ hj2)
structure Drops (l:List Page) (i:Nat):Prop where
 may:mayP l=true
 lt:i < l.length
 kind:(l.getD i default).kind=1∨(l.getD i default).kind=2
namespace Drops
variable {l:List Page} {i:Nat}
theorem eq (h:Drops l i):dropP l i=l.take i ++ List.replicate (sizeP (l.getD i default)) ⟨0,0⟩ ++ l.drop (i+sizeP (l.getD i default)):=by
 have hm:=h.may;unfold mayP at hm;rw [Bool.and_eq_true] at hm
 have:=(pgo_drop l i 0 hm.1 (Int.le_refl _) h.lt h.kind).1
 unfold dropP
 rw [putP_cat (by simpa using this),List.length_replicate]
theorem all (h:Drops l i):i+sizeP (l.getD i default)≤l.length∧1≤sizeP (l.getD i default)∧pgo 0 (dropP l i)=true∧∀ j,i < j→j < i+sizeP (l.getD i default)→l.getD j default=⟨3,0⟩:=by
 have hm:=h.may;unfold mayP at hm;rw [Bool.and_eq_true] at hm
 rw [h.eq]
 exact pgo_drop l i 0 hm.1 (Int.le_refl _) h.lt h.kind
theorem len (h:Drops l i):(dropP l i).length=l.length:=by
 have h1:=h.all.1
 rw [h.eq]
 generalize sizeP (l.getD i default)=n at h1
 simp;omega
theorem may' (h:Drops l i):mayP (dropP l i)=true:=by
 have hm:=h.may;unfold mayP at hm ⊢;rw [Bool.and_eq_true] at hm ⊢
 rw [h.len]
 exact ⟨h.all.2.2.1,hm.2⟩
theorem get (h:Drops l i) (j:Nat):(dropP l i).getD j default=if i≤j∧j < i+sizeP (l.getD i default) then ⟨0,0⟩ else l.getD j default:=by
 have h1:=h.all.1
 have hl:=h.lt
 rw [h.eq]
 generalize sizeP (l.getD i default)=n at h1
 simp only [List.getD_eq_getElem?_getD]
 by_cases c1:j < i
 ·rw [if_neg (by omega),List.append_assoc,List.getElem?_append_left (by simp;omega),List.getElem?_take_of_lt c1]
 ·rw [List.append_assoc,List.getElem?_append_right (by simp;omega)]
  have e1:(l.take i).length=i:=by simp;omega
  rw [e1]
  by_cases c2:j < i+n
  ·rw [if_pos ⟨by omega,c2⟩,List.getElem?_append_left (by simp;omega),List.getElem?_replicate,if_pos (by omega)];rfl
  ·rw [if_neg (by omega),List.getElem?_append_right (by simp;omega),List.getElem?_drop,List.length_replicate]
   congr 2;omega
theorem on (h:Drops l i) {j:Nat} (hj:j≠i) (x:Int):cellsOn ((dropP l i).getD j default) x=cellsOn (l.getD j default) x:=by
 rw [h.get]
 split
 ·rename_i c
  rw [h.all.2.2.2 j (by omega) c.2];rfl
 ·rfl
theorem at_ (h:Drops l i) (x:Int):cellsOn ((dropP l i).getD i default) x=[]:=by
 rw [h.get,if_pos ⟨Nat.le_refl _,by have:=h.all.2.1;omega⟩];rfl
theorem keep (h:Drops l i) {j:Nat} (hj:j≠i) (hk:(l.getD j default).kind≠3):(dropP l i).getD j default=l.getD j default:=by
 rw [h.get]
 split
 ·rename_i c
  rw [h.all.2.2.2 j (by omega) c.2] at hk;exact absurd rfl hk
 ·rfl
theorem cells (h:Drops l i):cellsAll (dropP l i)=(cellsAll l).filter fun x=>decide (x.1 / 16 - 1≠(i:Int)):=by
 have hp:=(mayP_ok h.may).1
 unfold cellsAll
 rw [if_pos h.may',if_pos h.may]
 unfold cellsFrom
 rw [h.len,List.drop_zero,List.filter_flatMap]
 rw [List.flatMap_def,List.flatMap_def]
 congr 1
 apply List.map_congr_left
 intro j hj
 have hj:j < l.length:=by simpa using hj
 by_cases e:j=i
 ·subst e
  rw [h.at_]
  symm
  rw [List.filter_eq_nil_iff]
  intro x hx
  have:=(cellOf_on hj (hp j hj) hx).div
  simp [this]
 ·rw [h.on e]
  symm
  rw [List.filter_eq_self]
  intro x hx
  have:=(cellOf_on hj (hp j hj) hx).div
  exact decide_eq_true (by omega)
theorem starts (h:Drops l i):cellStarts (dropP l i)=(cellStarts l).filter fun a=>decide (a / 16 - 1≠(i:Int)):=by
 unfold cellStarts
 rw [h.cells,List.filter_map]
 rfl
theorem room (h:Drops l i) (a:Int):roomAt (dropP l i) a=if a / 16 - 1=(i:Int) then 0 else roomAt l a:=by
 by_cases e:a / 16 - 1=(i:Int)
 ·rw [if_pos e]
  apply Classical.byContradiction
  intro hr
  have:=mem_starts.2 hr
  rw [h.starts,List.mem_filter] at this
  exact of_decide_eq_true this.2 e
 ·rw [if_neg e]
  by_cases hr:roomAt l a=0
  ·rw [hr]
   apply Classical.byContradiction
   intro hr'
   have:=mem_starts.2 hr'
   rw [h.starts,List.mem_filter] at this
   exact mem_starts.1 this.1 hr
  ·have h1:=roomAt_pos hr
   have h2:(a,roomAt l a)∈cellsAll (dropP l i):=by
    rw [h.cells,List.mem_filter]
    exact ⟨h1,decide_eq_true e⟩
   exact roomAt_mem h2
end Drops
end Go.Abs
namespace Go.Abs
open Go.Proofs Go.Proofs.YtejnngjfjaeiiaaGreatDoor
set_option maxRecDepth 8000
def nextS (l:List Page) (a:Int):Int:=((cellStarts l).find? fun s=>decide (a < s)).getD 0
theorem nextS_cases (l : List Page) (a : Int) : (nextS l a = 0 ∧ ∀ u ∈ cellStarts l, u ≤ a) ∨ (a < nextS l a ∧ nextS l a ∈ cellStarts l ∧ ∀ u ∈ cellStarts l, a < u → nextS l a ≤ u) := by
  unfold nextS
  have hs := starts_sorted l
  generalize cellStarts l = L at *
  induction L with
  | nil => exact .inl ⟨rfl, fun u h => by cases h⟩
  | cons x r ih =>
    rw [List.pairwise_cons] at hs
    rw [List.find?_cons]
    by_cases hx : a < x
    · rw [decide_eq_true hx]
      refine .inr ⟨hx, List.mem_cons_self .., fun u hu _ => ?_⟩
      rcases List.mem_cons.1 hu with e | hu
      · rw [e]; exact Int.le_refl _
      · exact Int.le_of_lt (hs.1 u hu)
    · rw [decide_eq_false hx]
      rcases ih hs.2 with ⟨h1, h2⟩ | ⟨h1, h2, h3⟩
      · refine .inl ⟨h1, fun u hu => ?_⟩
        rcases List.mem_cons.1 hu with e | hu
        · omega
        · exact h2 u hu
      · refine .inr ⟨h1, List.mem_cons_of_mem _ h2, fun u hu ha => ?_⟩
        rcases List.mem_cons.1 hu with e | hu
        · omega
        · exact h3 u hu ha
theorem place_ahead_spec (a:Int) (x:Int × Int):Spec X 149 [] [.int a,.agg [.d (DV.int x.1),.d (DV.int x.2)]] (Ret [] (.bo (decide (a < x.1)))):=by
 refine spec_go X_ok Tryz.f149 (by kernel_rfl) (by kernel_rfl) (by kernel_rfl) fun hb hH=>⟨rfl,?_⟩
 show ARet _ _ _
 exact ret_bo rfl ⟨rfl,rfl⟩
def nextB (l:List Page) (a:Int):Bool:=((cellStarts l).find? fun s=>decide (a < s)).isSome
theorem nextS_find (l:List Page) (a:Int):(cellStarts l).find? (fun s=>decide (a < s))=((cellsAll l).find? fun x=>decide (a < x.1)).map (·.1):=by
 unfold cellStarts
 rw [List.find?_map]
 rfl
theorem nextC_spec (l : List Page) (a : Int) : Spec X 92 [] [.c (.d (.sl .page l)), .int a] (Ret [] (.tup [.int (nextS l a), .bo (nextB l a)])) := by
  refine spec_go X_ok Tryz.f92 (by kernel_rfl) (by kernel_rfl) (by kernel_rfl) fun hb hH => ⟨rfl, ?_⟩
  unfold nextS nextB
  rw [nextS_find]
  cases h : (cellsAll l).find? fun x => decide (a < x.1) with
  | none =>
    show ACall _ _ _ _ _ _
    refine call_ret (firstCN (place_ahead_spec a) h) rfl ?_
    show ARet _ _ _
    exact ret_d rfl ⟨rfl, rfl⟩
  | some x =>
    show ACall _ _ _ _ _ _
    refine call_ret (firstCN (place_ahead_spec a) h) rfl ?_
    show ARet _ _ _
    exact ret_d rfl ⟨rfl, rfl⟩
end Go.Abs
namespace Go.Abs
structure Marks (g k:Hp):Prop where
 pages:k.pages=g.pages
 free:k.free=g.free
 cards:k.cards=g.cards
 len:k.w.length=g.w.length
 may:∀ cs,mayH k cs=mayH g cs
 whole:∀ cs,wholeH k cs=wholeH g cs
 used:usedH k=usedH g
 headE:∀ u,Abs.headE k u=Abs.headE g u
 head:∀ u,(headH k u).used=(headH g u).used∧(headH k u).old=(headH g u).old∧(headH k u).n=(headH g u).n∧(headH k u).born=(headH g u).born
 word:∀ i:Nat,k.w.getD i default≠g.w.getD i default→16+(i:Int)∈usedH g
theorem Marks.refl (g:Hp):Marks g g:=⟨rfl,rfl,rfl,rfl,fun _=>rfl,fun _=>rfl,rfl,fun _=>rfl,fun _=>⟨rfl,rfl,rfl,rfl⟩,fun _ h=>absurd rfl h⟩
theorem Marks.trans {g k m:Hp} (h:Marks g k) (h' : Marks k m):Marks g m:=by
 refine ⟨h'.pages.trans h.pages,h'.free.trans h.free,h'.cards.trans h.cards,h'.len.trans h.len,fun cs=>(h'.may cs).trans (h.may cs),fun cs=>(h'.whole cs).trans (h.whole cs),h'.used.trans h.used,fun u=>(h'.headE u).trans (h.headE u),fun u=>?_,fun i hi=>?_⟩
 ·obtain ⟨a1,a2,a3,a4⟩:=h.head u
  obtain ⟨b1,b2,b3,b4⟩:=h'.head u
  exact ⟨b1.trans a1,b2.trans a2,b3.trans a3,b4.trans a4⟩
 ·by_cases e:k.w.getD i default=g.w.getD i default
  ·have:=h'.word i (by rw [e];exact hi)
   rw [h.used] at this
   exact this
  ·exact h.word i e
theorem Marks.few {g k:Hp} (h:Marks g k):fewH k=fewH g:=few_same h.len h.pages h.free (by rw [h.cards])
theorem shade_marks (g:Hp) (c:Col) (a:Int):Marks g (shadeG g c a):=by
 obtain ⟨e1,e2,e3,e4⟩:=shadeG_rest g c a
 refine ⟨e1,e2,e3,e4,shadeG_may g c a,shadeG_whole g c a,shadeG_used g c a,fun u=>(shadeG_head g c a u).1,fun u=>?_,fun i hi=>?_⟩
 ·rw [(shadeG_head g c a u).2]
  by_cases e:u=a∧atK g c a=1
  ·rw [if_pos e,e.1];exact ⟨rfl,rfl,rfl,rfl⟩
  ·rw [if_neg e];exact ⟨rfl,rfl,rfl,rfl⟩
 ·obtain ⟨h1,h2⟩:=shadeG_word g c a i hi
  rw [show 16+(i:Int)=a by omega]
  exact mem_usedH.2 (mark_may h2).1
theorem black_marks (g:Hp) (c:Col) (a:Int):Marks g (blackG g c a):=by
 obtain ⟨e1,e2,e3,e4⟩:=blackG_rest g c a
 refine ⟨e1,e2,e3,e4,blackG_may g c a,blackG_whole g c a,blackG_used g c a,fun u=>(blackG_head g c a u).1,fun u=>?_,fun i hi=>?_⟩
 ·rw [(blackG_head g c a u).2]
  by_cases e:u=a∧atK g c a=2
  ·rw [if_pos e,e.1];exact ⟨rfl,rfl,rfl,rfl⟩
  ·rw [if_neg e];exact ⟨rfl,rfl,rfl,rfl⟩
 ·obtain ⟨h1,h2⟩:=blackG_word g c a i hi
  rw [show 16+(i:Int)=a by omega]
  exact mem_usedH.2 (done_may h2).1
def greyN (g:Hp) (c:Col) (a:Int):Int:=if atK g c a=2 then (headH g a).n else 0
def wordOf (g:Hp) (a:Int):Int:=if mayW g.w=true∧16≤a∧a < 16+(g.w.length:Int) then wordAt g a else 0
def fieldS (g:Hp) (c:Col):Hp × Col:=
 if c.field_ < 0∨greyN g c c.at_≤c.field_ then (g,{ c with at_:=0,field_:=0 })
 else if c.field_+1=greyN g c c.at_ then (blackG (shadeG g c (wordOf g (c.at_+1+c.field_))) c c.at_,{ shadeC g c (wordOf g (c.at_+1+c.field_)) with at_:=0,field_:=0 })
 else (shadeG g c (wordOf g (c.at_+1+c.field_)),{ shadeC g c (wordOf g (c.at_+1+c.field_)) with field_:=c.field_+1 })
def traceS (g : Hp) (c : Col) : Hp × Col :=
  if mayH g [] = true ∧ c.phase = 5 then
    (if c.at_ ≠ 0 then fieldS g c
     else if 0 < c.work.length then (g, { c with at_ := at0 c.work (c.work.length - 1), field_ := 0, work := c.work.take (c.work.length - 1) })
     else if c.seek ≠ 0 then (if greyN g c (nextS g.pages c.seek) = 0 then (g, { c with seek := nextS g.pages c.seek }) else (g, { c with seek := nextS g.pages c.seek, at_ := nextS g.pages c.seek, field_ := 0 }))
     else if c.over = true then (g, { c with over := false, seek := 1 })
     else (g, { c with phase := 6, at_ := 0, field_ := 0, seek := 0, card := 0, met := false }))
  else (g, c)
structure Rises (c:Col) (g k:Hp):Prop where
 le:∀ u,atK g c u≤atK k c u
 out:∀ u,atK g c u=0→atK k c u=0
theorem Rises.refl (c:Col) (g:Hp):Rises c g g:=⟨fun _=>Int.le_refl _,fun _ h=>h⟩
theorem Rises.trans {c:Col} {g k m:Hp} (h:Rises c g k) (h' : Rises c k m):Rises c g m:=⟨fun u=>Int.le_trans (h.le u) (h'.le u),fun u e=>h'.out u (h.out u e)⟩
theorem shade_rises (g:Hp) (c:Col) (a:Int):Rises c g (shadeG g c a):=by
 constructor
 ·intro u
  rw [atK_shade]
  by_cases e:u=a∧atK g c a=1
  ·rw [if_pos e,e.1,e.2];decide
  ·rw [if_neg e];exact Int.le_refl _
 ·intro u h0
  rw [atK_shade,if_neg]
  ·exact h0
  ·rintro ⟨e,h⟩
   subst e
   omega
theorem black_rises (g:Hp) (c:Col) (a:Int):Rises c g (blackG g c a):=by
 constructor
 ·intro u
  rw [atK_black]
  by_cases e:u=a∧atK g c a=2
  ·rw [if_pos e,e.1,e.2];decide
  ·rw [if_neg e];exact Int.le_refl _
 ·intro u h0
  rw [atK_black,if_neg]
  ·exact h0
  ·rintro ⟨e,h⟩
   subst e
   omega
inductive TStep (g:Hp) (c:Col):Hp→Col→Prop
 | idle (h:¬ (mayH g []=true∧c.phase=5)):TStep g c g c
 | lost (hm:mayH g []=true) (hp:c.phase=5) (ha:c.at_≠0) (h:c.field_ < 0∨greyN g c c.at_≤c.field_):TStep g c g { c with at_:=0,field_:=0 }
 | last (hm:mayH g []=true) (hp:c.phase=5) (ha:c.at_≠0) (h0:0≤c.field_) (h:c.field_+1=greyN g c c.at_) (v:Int) (hv:v=wordOf g (c.at_+1+c.field_)) :
   TStep g c (blackG (shadeG g c v) c c.at_) { shadeC g c v with at_:=0,field_:=0 }
 | more (hm:mayH g []=true) (hp:c.phase=5) (ha:c.at_≠0) (h0:0≤c.field_) (h:c.field_+1 < greyN g c c.at_) (v:Int) (hv:v=wordOf g (c.at_+1+c.field_)) :
   TStep g c (shadeG g c v) { shadeC g c v with field_:=c.field_+1 }
 | pop (hm:mayH g []=true) (hp:c.phase=5) (ha:c.at_=0) (r:List Int) (x:Int) (hw:c.work=r ++ [x]):TStep g c g { c with at_:=x,field_:=0,work:=r }
 | pass (hm:mayH g []=true) (hp:c.phase=5) (ha:c.at_=0) (hw:c.work=[]) (hs:c.seek≠0) (hg:greyN g c (nextS g.pages c.seek)=0):TStep g c g { c with seek:=nextS g.pages c.seek }
 | find (hm:mayH g []=true) (hp:c.phase=5) (ha:c.at_=0) (hw:c.work=[]) (hs:c.seek≠0) (hg:greyN g c (nextS g.pages c.seek)≠0):TStep g c g { c with seek:=nextS g.pages c.seek,at_:=nextS g.pages c.seek,field_:=0 }
 | again (hm:mayH g []=true) (hp:c.phase=5) (ha:c.at_=0) (hw:c.work=[]) (hs:c.seek=0) (ho:c.over=true):TStep g c g { c with over:=false,seek:=1 }
 | fin (hm:mayH g []=true) (hp:c.phase=5) (ha:c.at_=0) (hw:c.work=[]) (hs:c.seek=0) (ho:c.over=false):TStep g c g { c with phase:=6,at_:=0,field_:=0,seek:=0,card:=0,met:=false }
theorem take_last {l:List Int} (h:0 < l.length):l=l.take (l.length - 1) ++ [at0 l (l.length - 1)]:=by
 have h1:l.length - 1 < l.length:=by omega
 have:=take_at0 h1
 rw [show l.length - 1+1=l.length by omega,List.take_length] at this
 exact this
theorem trace_step (g:Hp) (c:Col):TStep g c (traceS g c).1 (traceS g c).2:=by
 unfold traceS
 by_cases hm:mayH g []=true∧c.phase=5
 ·rw [if_pos hm]
  by_cases ha:c.at_≠0
  ·rw [if_pos ha]
   unfold fieldS
   by_cases hf:c.field_ < 0∨greyN g c c.at_≤c.field_
   ·rw [if_pos hf]
    exact .lost hm.1 hm.2 ha hf
   ·rw [if_neg hf]
    by_cases hl:c.field_+1=greyN g c c.at_
    ·rw [if_pos hl]
     exact .last hm.1 hm.2 ha (by omega) hl _ rfl
    ·rw [if_neg hl]
     exact .more hm.1 hm.2 ha (by omega) (by omega) _ rfl
  ·rw [if_neg ha]
   have ha:c.at_=0:=by simpa using ha
   by_cases hw:0 < c.work.length
   ·rw [if_pos hw]
    exact .pop hm.1 hm.2 ha _ _ (take_last hw)
   ·rw [if_neg hw]
    have hw:c.work=[]:=List.eq_nil_of_length_eq_zero (by omega)
    by_cases hs:c.seek≠0
    ·rw [if_pos hs]
     by_cases hg:greyN g c (nextS g.pages c.seek)=0
     ·rw [if_pos hg]
      exact .pass hm.1 hm.2 ha hw hs hg
     ·rw [if_neg hg]
      exact .find hm.1 hm.2 ha hw hs hg
    ·rw [if_neg hs]
     have hs:c.seek=0:=by simpa using hs
     by_cases ho:c.over=true
     ·rw [if_pos ho]
      exact .again hm.1 hm.2 ha hw hs ho
     ·rw [if_neg ho]
      exact .fin hm.1 hm.2 ha hw hs (by simpa using ho)
 ·rw [if_neg hm]
  exact .idle hm
theorem TStep.marks {g k:Hp} {c d:Col} (h:TStep g c k d):Marks g k:=by
 cases h
 case last v hv=>exact (shade_marks g c v).trans (black_marks _ c c.at_)
 case more v hv=>exact shade_marks g c v
 all_goals exact .refl g
theorem TStep.rises {g k:Hp} {c d:Col} (h:TStep g c k d):Rises c g k:=by
 cases h
 case last v hv=>exact (shade_rises g c v).trans (black_rises _ c c.at_)
 case more v hv=>exact shade_rises g c v
 all_goals exact .refl c g
theorem TStep.col {g k:Hp} {c d:Col} (h:TStep g c k d):d.epoch=c.epoch∧d.major=c.major∧(d.phase=c.phase∨c.phase=5∧d.phase=6):=by
 cases h
 case last v hv=>exact ⟨(shadeC_same g c v).epoch,(shadeC_same g c v).major,.inl (shadeC_same g c v).phase⟩
 case more v hv=>exact ⟨(shadeC_same g c v).epoch,(shadeC_same g c v).major,.inl (shadeC_same g c v).phase⟩
 case fin=>exact ⟨rfl,rfl,.inr ⟨by assumption,rfl⟩⟩
 all_goals exact ⟨rfl,rfl,.inl rfl⟩
theorem TStep.at {g k:Hp} {c d:Col} (h:TStep g c k d) (m:Hp) (u:Int):atK m d u=atK m c u:=atK_col h.col.1 h.col.2.1 m u
theorem TStep.work {g k:Hp} {c d:Col} (h:TStep g c k d):d.work.length≤c.work.length+1:=by
 have hsh:∀ v,(shadeC g c v).work.length≤c.work.length+1:=fun v=>by
  by_cases e:atK g c v=1
  ·rw [shadeC_yes e]
   split
   ·show (c.work ++ [v]).length≤_
    rw [List.length_append]
    exact Nat.le_refl _
   ·exact Nat.le_succ _
  ·rw [shadeC_no e]
   exact Nat.le_succ _
 cases h
 case last v hv=>exact hsh v
 case more v hv=>exact hsh v
 case pop r x hw=>
  show r.length≤_
  rw [hw,List.length_append]
  omega
 all_goals exact Nat.le_succ _
theorem shadeC_work4 (g:Hp) (c:Col) (v:Int) (h:c.work.length≤100):(shadeC g c v).work.length≤100:=by
 by_cases e:atK g c v=1
 ·rw [shadeC_yes e]
  split
  ·show (c.work ++ [v]).length≤_
   rw [List.length_append,List.length_singleton]
   omega
  ·exact h
 ·rw [shadeC_no e];exact h
theorem TStep.work100 {g k:Hp} {c d:Col} (h:TStep g c k d) (h1:c.work.length≤100):d.work.length≤100:=by
 cases h
 case last v hv=>exact shadeC_work4 g c v h1
 case more v hv=>exact shadeC_work4 g c v h1
 case pop r x hw=>
  rw [hw,List.length_append] at h1
  show r.length≤_
  omega
 all_goals exact h1
def knownB (g:Hp) (c:Col):Bool:=(greyH g c).all fun u=>c.over || (u == c.at_ || ((c.seek != 0 && decide (u > c.seek)) || c.work.contains u))
theorem known_iff {g:Hp} {c:Col}:knownB g c=true↔∀ u,atK g c u=2→c.over=true∨u=c.at_∨(c.seek≠0∧c.seek < u)∨u∈c.work:=by
 unfold knownB
 rw [List.all_eq_true]
 constructor
 ·intro h u hu
  have:=h u (mem_grey.2 hu)
  simp only [Bool.or_eq_true,Bool.and_eq_true,beq_iff_eq,bne_iff_ne,decide_eq_true_eq,List.contains_iff_mem] at this
  exact this
 ·intro h u hu
  simp only [Bool.or_eq_true,Bool.and_eq_true,beq_iff_eq,bne_iff_ne,decide_eq_true_eq,List.contains_iff_mem]
  exact h u (mem_grey.1 hu)
theorem grey_adr {g:Hp} {c:Col} {u:Int} (h:atK g c u=2):headE g u=0∧u∈cellStarts g.pages∧16≤u:=by
 have h0:headE g u=0:=atK_ne (c:=c) (by omega)
 obtain ⟨_,hr,_⟩:=headE_of h0
 exact ⟨h0,mem_starts.2 hr,(room_adr (h:=g) hr).1⟩
theorem greyN_pos {g:Hp} {c:Col} {a:Int}:greyN g c a≠0↔atK g c a=2:=by
 unfold greyN
 constructor
 ·intro h
  by_cases e:atK g c a=2
  ·exact e
  ·rw [if_neg e] at h;exact absurd rfl h
 ·intro h
  rw [if_pos h]
  have:=(head_fits (grey_adr h).1).2.1
  omega
theorem known_shade {g:Hp} {c:Col} {v:Int} (h:∀ u,atK g c u=2→c.over=true∨u=c.at_∨(c.seek≠0∧c.seek < u)∨u∈c.work) :
  ∀ u,atK (shadeG g c v) c u=2→(shadeC g c v).over=true∨u=c.at_∨(c.seek≠0∧c.seek < u)∨u∈(shadeC g c v).work:=by
 intro u hu
 rw [atK_shade] at hu
 by_cases hv:atK g c v=1
 ·rw [shadeC_yes hv]
  by_cases h4:c.work.length < 4
  ·rw [if_pos h4]
   show c.over=true∨_∨_∨u∈c.work ++ [v]
   rw [List.mem_append,List.mem_singleton]
   by_cases e:u=v
   ·exact .inr (.inr (.inr (.inr e)))
   ·rw [if_neg (fun k=>e k.1)] at hu
    rcases h u hu with k | k | k | k
    ·exact .inl k
    ·exact .inr (.inl k)
    ·exact .inr (.inr (.inl k))
    ·exact .inr (.inr (.inr (.inl k)))
  ·rw [if_neg h4]
   exact .inl rfl
 ·rw [if_neg (fun k=>hv k.2)] at hu
  rw [shadeC_no hv]
  exact h u hu
theorem TStep.known {g k:Hp} {c d:Col} (h:TStep g c k d) (hk:knownB g c=true) (hf:atK g c c.at_=2→0≤c.field_∧c.field_ < (headH g c.at_).n):knownB k d=true:=by
 have hat:=h.at
 rw [known_iff] at hk ⊢
 cases h
 case idle h=>exact hk
 case lost hm hp ha h=>
  intro u hu
  rcases hk u hu with k | k | k | k
  ·exact .inl k
  ·exfalso
   subst k
   have h1:atK g c c.at_=2:=hu
   have h2:=hf h1
   have h3:greyN g c c.at_=(headH g c.at_).n:=if_pos h1
   omega
  ·exact .inr (.inr (.inl k))
  ·exact .inr (.inr (.inr k))
 case last hm hp ha h0 h v hv=>
  intro u hu
  rw [hat,atK_black] at hu
  by_cases e:u=c.at_∧atK (shadeG g c v) c c.at_=2
  ·rw [if_pos e] at hu;exact absurd hu (by decide)
  ·rw [if_neg e] at hu
   rcases known_shade hk u hu with k | k | k | k
   ·exact .inl k
   ·exact absurd ⟨k,k ▸ hu⟩ e
   ·exact .inr (.inr (.inl ⟨by rw [(shadeC_same g c v).seek];exact k.1,by show (shadeC g c v).seek < u;rw [(shadeC_same g c v).seek];exact k.2⟩))
   ·exact .inr (.inr (.inr k))
 case more hm hp ha h0 h v hv=>
  intro u hu
  rw [hat] at hu
  rcases known_shade hk u hu with k | k | k | k
  ·exact .inl k
  ·exact .inr (.inl (by show u=(shadeC g c v).at_;rw [(shadeC_same g c v).at_];exact k))
  ·exact .inr (.inr (.inl ⟨by rw [(shadeC_same g c v).seek];exact k.1,by show (shadeC g c v).seek < u;rw [(shadeC_same g c v).seek];exact k.2⟩))
  ·exact .inr (.inr (.inr k))
 case pop hm hp ha r x hw=>
  intro u hu
  rcases hk u hu with k | k | k | k
  ·exact .inl k
  ·have:=(grey_adr (c:=c) hu).2.2
   omega
  ·exact .inr (.inr (.inl k))
  ·rw [hw,List.mem_append,List.mem_singleton] at k
   rcases k with k | k
   ·exact .inr (.inr (.inr k))
   ·exact .inr (.inl k)
 case pass hm hp ha hw hs hg=>
  intro u hu
  have hgr:=grey_adr (c:=c) hu
  rcases hk u hu with k | k | k | k
  ·exact .inl k
  ·omega
  ·rcases nextS_cases g.pages c.seek with ⟨h1,h2⟩ | ⟨h1,h2,h3⟩
   ·have:=h2 u hgr.2.1
    omega
   ·have h4:=h3 u hgr.2.1 k.2
    have h5:u≠nextS g.pages c.seek:=by
     intro e
     have:=greyN_pos.2 (show atK g c u=2 from hu)
     rw [e] at this
     exact this hg
    have h6:=(room_adr (h:=g) (mem_starts.1 h2)).1
    refine .inr (.inr (.inl ⟨?_,?_⟩))
    ·show nextS g.pages c.seek≠0;omega
    ·show nextS g.pages c.seek < u;omega
  ·rw [hw] at k;cases k
 case find hm hp ha hw hs hg=>
  intro u hu
  have hgr:=grey_adr (c:=c) hu
  rcases hk u hu with k | k | k | k
  ·exact .inl k
  ·omega
  ·rcases nextS_cases g.pages c.seek with ⟨h1,h2⟩ | ⟨h1,h2,h3⟩
   ·have:=h2 u hgr.2.1
    omega
   ·have h4:=h3 u hgr.2.1 k.2
    have h6:=(room_adr (h:=g) (mem_starts.1 h2)).1
    by_cases e:u=nextS g.pages c.seek
    ·exact .inr (.inl e)
    ·refine .inr (.inr (.inl ⟨?_,?_⟩))
     ·show nextS g.pages c.seek≠0;omega
     ·show nextS g.pages c.seek < u;omega
  ·rw [hw] at k;cases k
 case again hm hp ha hw hs ho=>
  intro u hu
  have hgr:=grey_adr (c:=c) hu
  exact .inr (.inr (.inl ⟨by show (1:Int)≠0;decide,by show (1:Int) < u;omega⟩))
 case fin hm hp ha hw hs ho=>
  intro u hu
  have hu:atK g c u=2:=by rw [← hat];exact hu
  have hgr:=grey_adr hu
  rcases hk u hu with k | k | k | k
  ·rw [ho] at k;cases k
  ·omega
  ·exact absurd hs k.1
  ·rw [hw] at k;cases k
theorem known_none {g:Hp} {c:Col} (hk:knownB g c=true) (ha:c.at_=0) (hw:c.work=[]) (hs:c.seek=0) (ho:c.over=false):greyH g c=[]:=by
 rw [known_iff] at hk
 apply List.eq_nil_iff_forall_not_mem.2
 intro u hu
 have hu:=mem_grey.1 hu
 have hgr:=grey_adr hu
 rcases hk u hu with k | k | k | k
 ·rw [ho] at k;cases k
 ·omega
 ·exact absurd hs k.1
 ·rw [hw] at k;cases k
end Go.Abs
namespace Go.Abs
def hasA' (l:List Page) (a s:Int):Bool:=decide (s≤a∧a < s+roomAt l s)
theorem one_cell {l:List Page} (hmp:mayP l=true) {a:Int} (h1:16≤a) (h2:a < 16 * ((l.length:Int)+1)):((cellStarts l).filter (hasA' l a)).length≤1:=by
 have ht:=tile l 0 0 (by unfold mayP at hmp;rw [Bool.and_eq_true] at hmp;exact hmp.1) (Int.le_refl _) (fun p hp=>by
  obtain ⟨i,hi,e⟩:=List.mem_iff_getElem.1 hp
  have:=(mayP_ok hmp).1 i hi
  rw [List.getD_eq_getElem?_getD,List.getElem?_eq_getElem hi] at this
  rw [← e];exact this) a (by omega) (by omega)
 have e0:cellsAll l=cellsRec 0 l:=by
  unfold cellsAll
  rw [if_pos hmp,cellsRec_from l _ 0 rfl]
  rfl
 have e1:cnt (cellsAll l) a=((cellStarts l).filter (hasA' l a)).length:=by
  unfold cnt cellStarts
  rw [List.filter_map,List.length_map]
  congr 1
  refine List.filter_congr fun x hx=>?_
  show inCell a x=hasA' l a x.1
  unfold inCell hasA'
  rw [roomAt_mem hx]
 rw [← e1,e0]
 omega
theorem two_of {l : List Int} (hn : l.Nodup) {x y : Int} (hx : x ∈ l) (hy : y ∈ l) (hne : x ≠ y) : 2 ≤ l.length := by
  cases l with
  | nil => cases hx
  | cons a r =>
    cases r with
    | nil =>
      rw [List.mem_singleton] at hx hy
      exact absurd (hx.trans hy.symm) hne
    | cons b s => simp
theorem pgo_len : ∀ (l : List Page) (r : Int), pgo r l = true → (∀ p ∈ l, pageOk p) → r ≤ (l.length : Int)
  | [], r, h, _ => by
    unfold pgo at h
    have := of_decide_eq_true h
    simp
    omega
  | p :: l, r, h, hp => by
    unfold pgo at h
    have hl : ((p :: l).length : Int) = (l.length : Int) + 1 := by simp
    by_cases h3 : p.kind = 3
    · rw [decide_eq_true h3] at h
      simp only [cond_true, Bool.and_eq_true] at h
      have := pgo_len l (r - 1) h.2 fun q hq => hp q (List.mem_cons_of_mem _ hq)
      omega
    · rw [decide_eq_false h3] at h
      simp only [cond_false, Bool.and_eq_true, Bool.not_eq_true', decide_eq_false_iff_not] at h
      omega
theorem pgo_big : ∀ (l : List Page) (r : Int) (i : Nat), pgo r l = true → (∀ p ∈ l, pageOk p) → i < l.length → (l.getD i default).kind = 2 → (i : Int) + (l.getD i default).arg ≤ (l.length : Int)
  | [], r, i, _, _, hi, _ => by simp at hi
  | p :: l, r, i, h, hp, hi, hk => by
    unfold pgo at h
    have hl : ((p :: l).length : Int) = (l.length : Int) + 1 := by simp
    have hp' : ∀ q ∈ l, pageOk q := fun q hq => hp q (List.mem_cons_of_mem _ hq)
    have rec_ : ∀ r', pgo r' l = true → ∀ j, i = j + 1 → (i : Int) + ((p :: l).getD i default).arg ≤ ((p :: l).length : Int) := by
      intro r' h' j hj
      subst hj
      have := pgo_big l r' j h' hp' (by simpa using hi) hk
      have e : ((p :: l).getD (j + 1) default) = l.getD j default := rfl
      rw [e]
      omega
    by_cases h3 : p.kind = 3
    · rw [decide_eq_true h3] at h
      simp only [cond_true, Bool.and_eq_true] at h
      cases i with
      | zero => exfalso; have hk : p.kind = 2 := hk; omega
      | succ j => exact rec_ _ h.2 j rfl
    · rw [decide_eq_false h3] at h
      simp only [cond_false, Bool.and_eq_true] at h
      cases i with
      | zero =>
        have hk : p.kind = 2 := hk
        have h2 := h.2
        rw [if_pos hk] at h2
        have := pgo_len l _ h2 hp'
        show ((0 : Nat) : Int) + p.arg ≤ _
        omega
      | succ j => exact rec_ _ h.2 j rfl
theorem pages_ok {l:List Page} (hmp:mayP l=true):∀ p∈l,pageOk p:=by
 intro p hp
 obtain ⟨i,hi,e⟩:=List.mem_iff_getElem.1 hp
 have:=(mayP_ok hmp).1 i hi
 rw [List.getD_eq_getElem?_getD,List.getElem?_eq_getElem hi] at this
 rw [← e];exact this
theorem room_end {l:List Page} {a:Int} (h:roomAt l a≠0):a+roomAt l a≤16 * ((l.length:Int)+1):=by
 obtain ⟨hmp,i,hi⟩:=cellOf_mem (roomAt_pos h)
 have hlt:=hi.lt
 have hk:=hi.kind
 simp only at hk
 rcases hk with ⟨_,_,_,k4,_⟩ | ⟨k1,k2,k3,k4,k5⟩
 ·omega
 ·have:=pgo_big l 0 i (by unfold mayP at hmp;rw [Bool.and_eq_true] at hmp;exact hmp.1) (pages_ok hmp) hlt k1
  omega
theorem inside {l:List Page} {u a:Int} (hr:roomAt l u≠0) (h1:u < a) (h2:a < u+roomAt l u):roomAt l a=0:=by
 by_cases h:roomAt l a=0
 ·exact h
 ·exfalso
  obtain ⟨hmp,i,hi⟩:=cellOf_mem (roomAt_pos hr)
  have hlo:=hi.lo
  simp only at hlo
  have hend:=room_end hr
  have hone:=one_cell hmp (a:=a) (by omega) (by omega)
  have hpos:=roomAt_nonneg l a
  have hn:((cellStarts l).filter (hasA' l a)).Nodup:=((starts_sorted l).imp (fun h=>by omega):(cellStarts l).Nodup).sublist List.filter_sublist
  have:=two_of hn (x:=u) (y:=a) (List.mem_filter.2 ⟨mem_starts.2 hr,decide_eq_true ⟨by omega,h2⟩⟩) (List.mem_filter.2 ⟨mem_starts.2 h,decide_eq_true ⟨by omega,by omega⟩⟩) (by omega)
  omega
theorem field_adr {g:Hp} {u f:Int} (h0:headE g u=0) (h1:1≤f) (h2:f≤(headH g u).n):adr g (u+f)∧u+f ∉ usedH g:=by
 obtain ⟨_,hn1,hn2,had⟩:=head_fits h0
 obtain ⟨_,hr,_⟩:=headE_of h0
 have he:=room_end hr
 have had1:=had.1
 refine ⟨⟨by omega,by omega⟩,fun hin=>?_⟩
 have:=(headE_of (mem_usedH.1 hin)).2.1
 exact this (inside hr (by omega) (by omega))
theorem wordOf_field {g:Hp} {u f:Int} (h0:headE g u=0) (h1:1≤f) (h2:f≤(headH g u).n):wordOf g (u+f)=wordAt g (u+f):=by
 have had:=(field_adr h0 h1 h2).1
 obtain ⟨hw,_,hs,_⟩:=shapedH_of (mayH_shaped (headE_of h0).1)
 unfold wordOf
 have ha1:=had.1;have ha2:=had.2
 rw [if_pos ⟨hw,by omega,by omega⟩]
theorem Marks.field {g k:Hp} (h:Marks g k) {u f:Int} (h0:Abs.headE g u=0) (h1:1≤f) (h2:f≤(headH g u).n):wordAt k (u+f)=wordAt g (u+f):=by
 obtain ⟨had,hnot⟩:=field_adr h0 h1 h2
 have ha1:=had.1
 unfold wordAt at0
 by_cases e:k.w.getD (u+f - 16).toNat 0=g.w.getD (u+f - 16).toNat 0
 ·exact e
 ·exfalso
  have:=h.word _ e
  rw [show 16+((u+f - 16).toNat:Int)=u+f by omega] at this
  exact hnot this
def ledQ (P:Int→Prop) (g:Hp) (c:Col):Prop:=∀ u,P u→atK g c u=3→∀ f:Int,1≤f→f≤(headH g u).n→atK g c (wordAt g (u+f))≠1
structure TAt (g:Hp) (c:Col):Prop where
 f0:c.at_≠0→0≤c.field_
 fn:atK g c c.at_=2→c.at_≠0→c.field_ < (headH g c.at_).n
 led:atK g c c.at_=2→c.at_≠0→∀ f:Int,1≤f→f≤c.field_→atK g c (wordAt g (c.at_+f))≠1
theorem Rises.nonwhite {c:Col} {g k:Hp} (h:Rises c g k) {u:Int} (hu:atK g c u≠1):atK k c u≠1:=by
 intro e
 have h1:=h.le u
 have h2:=(atK_nonneg g c u).1
 have h3:atK g c u=0:=by omega
 have:=h.out u h3
 omega
theorem marks_n {g k:Hp} (h:Marks g k) (u:Int):(headH k u).n=(headH g u).n:=(h.head u).2.2.1
theorem led_keep {g k:Hp} {c:Col} (hM:Marks g k) (hR:Rises c g k) {u:Int} (h0:headE g u=0) {m:Int} (hm:m≤(headH g u).n) (h:∀ f:Int,1≤f→f≤m→atK g c (wordAt g (u+f))≠1) :
  ∀ f:Int,1≤f→f≤m→atK k c (wordAt k (u+f))≠1:=by
 intro f h1 h2
 rw [hM.field h0 h1 (by omega)]
 exact hR.nonwhite (h f h1 h2)
theorem TStep.led {P:Int→Prop} {g k:Hp} {c d:Col} (h:TStep g c k d) (hl:ledQ P g c) (ht:TAt g c):ledQ P k d∧TAt k d:=by
 have hM:=h.marks
 have hR:=h.rises
 have hat:=h.at
 have hn:=marks_n hM
 have hblack:∀ u,P u→atK g c u=3→∀ f:Int,1≤f→f≤(headH k u).n→atK k c (wordAt k (u+f))≠1:=fun u hP hu f h1 h2=>by
  rw [hn] at h2
  have h0:headE g u=0:=atK_ne (c:=c) (by omega)
  exact led_keep hM hR h0 (Int.le_refl _) (hl u hP hu) f h1 h2
 have same:k=g→d.at_=c.at_→d.field_=c.field_→ledQ P k d∧TAt k d:=by
  intro e1 e2 e3
  subst e1
  refine ⟨fun u hP hu=>?_,⟨by rw [e2,e3];exact ht.f0,by rw [hat,e2,e3];exact ht.fn,?_⟩⟩
  ·rw [hat] at hu
   intro f h1 h2
   rw [hat]
   exact hl u hP hu f h1 h2
  ·rw [hat,e2,e3]
   intro h1 h2 f h3 h4
   rw [hat]
   exact ht.led h1 h2 f h3 h4
 have fresh:k=g→d.at_=0∨d.field_=0→ledQ P k d∧TAt k d:=by
  intro e1 e2
  subst e1
  refine ⟨fun u hP hu f h1 h2=>?_,⟨fun h=>?_,fun h1 h2=>?_,fun h1 h2 f h3 h4=>?_⟩⟩
  ·rw [hat] at hu ⊢
   exact hl u hP hu f h1 h2
  ·rcases e2 with e2 | e2
   ·exact absurd e2 h
   ·omega
  ·rcases e2 with e2 | e2
   ·exact absurd e2 h2
   ·rw [hat] at h1
    have:=(head_fits (grey_adr h1).1).2.1
    omega
  ·rcases e2 with e2 | e2
   ·exact absurd e2 h2
   ·omega
 cases h
 case idle h=>exact same rfl rfl rfl
 case lost hm hp ha h=>exact fresh rfl (.inl rfl)
 case pop r x hw=>exact fresh rfl (.inr rfl)
 case pass=>exact same rfl rfl rfl
 case find=>exact fresh rfl (.inr rfl)
 case again=>exact same rfl rfl rfl
 case fin=>exact fresh rfl (.inl rfl)
 case last hm hp ha h0 h v hv=>
  have hg:atK g c c.at_=2:=greyN_pos.1 (by omega)
  have hh:=(grey_adr hg).1
  have hN:greyN g c c.at_=(headH g c.at_).n:=if_pos hg
  refine ⟨fun u hP hu f h1 h2=>?_,⟨fun h=>absurd rfl h,fun _ h=>absurd rfl h,fun _ h=>absurd rfl h⟩⟩
  rw [hat] at hu ⊢
  by_cases hu3:atK g c u=3
  ·exact hblack u hP hu3 f h1 h2
  ·
   have hua:u=c.at_:=by
    rw [atK_black] at hu
    by_cases e:u=c.at_∧atK (shadeG g c v) c c.at_=2
    ·exact e.1
    ·rw [if_neg e,atK_shade] at hu
     by_cases e' : u=v∧atK g c v=1
     ·rw [if_pos e'] at hu;exact absurd hu (by decide)
     ·rw [if_neg e'] at hu;exact absurd hu hu3
   subst hua
   rw [hn] at h2
   by_cases hf:f=c.field_+1
   ·rw [hM.field hh h1 h2]
    subst hf
    have hvw:v=wordAt g (c.at_+(c.field_+1)):=by
     rw [hv,show c.at_+1+c.field_=c.at_+(c.field_+1) by omega]
     exact wordOf_field hh h1 h2
    rw [← hvw]
    exact (black_rises (shadeG g c v) c c.at_).nonwhite (by
     rw [atK_shade]
     by_cases e:atK g c v=1
     ·rw [if_pos ⟨rfl,e⟩];decide
     ·rw [if_neg (fun k=>e k.2)];exact e)
   ·exact led_keep hM hR hh (m:=c.field_) (by omega) (ht.led hg ha) f h1 (by omega)
 case more hm hp ha h0 h v hv=>
  have hg:atK g c c.at_=2:=greyN_pos.1 (by omega)
  have hh:=(grey_adr hg).1
  have hN:greyN g c c.at_=(headH g c.at_).n:=if_pos hg
  have ea:({ shadeC g c v with field_:=c.field_+1 }:Col).at_=c.at_:=(shadeC_same g c v).at_
  refine ⟨fun u hP hu f h1 h2=>?_,⟨fun _=>?_,fun _ _=>?_,fun _ _ f h1 h2=>?_⟩⟩
  ·rw [hat] at hu ⊢
   have hu3:atK g c u=3:=by
    rw [atK_shade] at hu
    by_cases e' : u=v∧atK g c v=1
    ·rw [if_pos e'] at hu;exact absurd hu (by decide)
    ·rw [if_neg e'] at hu;exact hu
   exact hblack u hP hu3 f h1 h2
  ·show 0≤c.field_+1
   omega
  ·rw [ea,hn]
   show c.field_+1 < _
   omega
  ·rw [hat,ea]
   have h2:f≤c.field_+1:=h2
   by_cases hf:f=c.field_+1
   ·rw [hM.field hh h1 (by omega)]
    subst hf
    have hvw:v=wordAt g (c.at_+(c.field_+1)):=by
     rw [hv,show c.at_+1+c.field_=c.at_+(c.field_+1) by omega]
     exact wordOf_field hh h1 (by omega)
    rw [← hvw,atK_shade]
    by_cases e:atK g c v=1
    ·rw [if_pos ⟨rfl,e⟩];decide
    ·rw [if_neg (fun k=>e k.2)];exact e
   ·exact led_keep hM hR hh (m:=c.field_) (by omega) (ht.led hg ha) f h1 (by omega)
end Go.Abs
namespace Go.Abs
open Go.Proofs Go.Proofs.YtejnngjfjaeiiaaGreatDoor
set_option maxRecDepth 8000
def onTo (g:Hp) (c:Int) (n:Nat):List Int:=((List.range n).map fun i:Nat=>16+c * 8+(i:Int)).filter fun a=>(usedH g).contains a
def onH (g:Hp) (c:Int):List Int:=bif decide (0≤c∧c < (g.cards.length:Int)) then onTo g c 8 else []
def nextO (g:Hp) (c a:Int):Option Int:=(onH g c).find? fun b=>decide (a < b) && (headH g b).old
theorem onTo_succ (g:Hp) (c:Int) (n:Nat):onTo g c (n+1)=onTo g c n ++ (bif (usedH g).contains (16+c * 8+(n:Int)) then [16+c * 8+(n:Int)] else []):=by
 unfold onTo
 rw [List.range_succ,List.map_append,List.filter_append]
 have e:([16+c * 8+(n:Int)]:List Int).filter (fun a=>(usedH g).contains a)=bif (usedH g).contains (16+c * 8+(n:Int)) then [16+c * 8+(n:Int)] else []:=by
  rw [List.filter_cons,List.filter_nil]
  cases (usedH g).contains (16+c * 8+(n:Int)) <;> rfl
 rw [← e]
 rfl
theorem onTo_len (g:Hp) (c:Int) (n:Nat):(onTo g c n).length≤n:=by
 unfold onTo
 refine Nat.le_trans (List.length_filter_le _ _) ?_
 simp
theorem On_spec (g : Hp) (c : Int) (hl : g.light) : Spec X 145 [] [g.tv, .int c] (Ret [] (.c (.d (.sl .int (onH g c))))) := by
  refine spec_go X_ok Tryz.f145 (by kernel_rfl) (by kernel_rfl) (by kernel_rfl) fun hb hH => ⟨rfl, ?_⟩
  have hlc : g.cards.length ≤ maxN := ((hb (g.tv) (by simp)) (.d (.sl .bool g.cards)) (by simp [Hp.enc])).1
  unfold maxN at hlc
  have hcond : (bif decide (c < 0) then true else decide (c ≥ (g.cards.length : Int))) = !decide (0 ≤ c ∧ c < (g.cards.length : Int)) := by
    by_cases h1 : c < 0
    · rw [decide_eq_true h1, decide_eq_false (p := 0 ≤ c ∧ c < (g.cards.length : Int)) (by omega)]; rfl
    · rw [decide_eq_false h1]
      by_cases h2 : c ≥ (g.cards.length : Int)
      · rw [decide_eq_true h2, decide_eq_false (p := 0 ≤ c ∧ c < (g.cards.length : Int)) (by omega)]; rfl
      · rw [decide_eq_false h2, decide_eq_true (p := 0 ≤ c ∧ c < (g.cards.length : Int)) (by omega)]; rfl
  unfold onH
  show ABr (bif decide (c < 0) then true else decide (c ≥ (g.cards.length : Int))) _ _
  rw [hcond]
  cases hin : decide (0 ≤ c ∧ c < (g.cards.length : Int)) with
  | false =>
    show ABr _ _ _
    refine ⟨fun _ => ?_, fun h => absurd h (by decide)⟩
    show ARet _ _ _
    exact ret1 (.nilsl rfl) ⟨rfl, rfl⟩
  | true =>
    have hin := of_decide_eq_true hin
    show ABr _ _ _
    refine ⟨fun h => absurd h (by decide), fun _ => ?_⟩
    show ACall _ _ _ _ _ _
    refine call_ret (hUsed_spec g hl) rfl ?_
    show ∃ n, _
    refine ⟨0, ALoop.inv (ι := {i : Nat // i ≤ 8}) (fun i => ⟨[(1, .int c), (5, .c (.d (.sl .int (usedH g)))), (6, .c (.own 1)), (20, .int i.1)], [(1, .data .int (onTo g c i.1))], 64⟩) (fun i => 8 - i.1) ⟨0, Nat.zero_le _⟩ ?_ ?_⟩
    · exact ⟨[], .cons _ _ _ .same (.cons _ _ _ .same (.cons _ _ _ (.c _ _ (.nilown 1 .int rfl rfl)) (.cons _ _ _ .same .nil))), .new 1 .int _ rfl .nil, rfl⟩
    · rintro ⟨i, hi⟩
      show ABr (decide ((i : Int) < 8)) _ _
      refine ⟨fun h => ?_, fun h => ?_⟩
      · have hlt : i < 8 := by have := of_decide_eq_true h; omega
        have w1 : IntKind.i64.wrap (c * 8) = c * 8 := wrap64 (by omega) (by omega)
        have w2 : IntKind.i64.wrap (16 + c * 8) = 16 + c * 8 := wrap64 (by omega) (by omega)
        have w3 : IntKind.i64.wrap (16 + c * 8 + (i : Int)) = 16 + c * 8 + (i : Int) := wrap64 (by omega) (by omega)
        have wi : IntKind.i64.wrap ((i : Int) + 1) = ((i + 1 : Nat) : Int) := by rw [wrap64 (by omega) (by omega)]; rfl
        have hs := onTo_succ g c i
        have hlen := onTo_len g c i
        show ACall _ _ [_, .int (IntKind.i64.wrap (IntKind.i64.wrap (16 + IntKind.i64.wrap (c * 8)) + (i : Int)))] _ _ _
        rw [w1, w2, w3]
        refine call_ret (Contains_spec (usedH g) (16 + c * 8 + (i : Int))) rfl ?_
        show ABr ((usedH g).contains (16 + c * 8 + (i : Int))) _ _
        refine ⟨fun h => ?_, fun h => ?_⟩
        · rw [h] at hs
          show AOb ((onTo g c i).length + 1 ≤ most) _
          refine ⟨by unfold most; omega, ?_⟩
          show ARound _ _ _ _
          exact ⟨⟨i + 1, hlt⟩, by show 8 - (i + 1) < 8 - i; omega, [(_, 1)], .cons _ _ _ .same (.cons _ _ _ .same (.cons _ _ _ (.c _ _ (.own1 _ _)) (.cons _ _ _ (.int_eq wi) .nil))), .old 1 _ _ _ _ rfl rfl (.data_eq hs.symm) .nil, rfl⟩
        · rw [h] at hs
          show ARound _ _ _ _
          exact ⟨⟨i + 1, hlt⟩, by show 8 - (i + 1) < 8 - i; omega, [(1, 1)], .cons _ _ _ .same (.cons _ _ _ .same (.cons _ _ _ (.c _ _ (.own1 _ _)) (.cons _ _ _ (.int_eq wi) .nil))), .old 1 1 _ _ _ rfl rfl (.data_eq (by rw [hs]; exact (List.append_nil _).symm)) .nil, rfl⟩
      · have hge : i = 8 := by have := of_decide_eq_false h; omega
        subst hge
        show ARet _ _ _
        exact ret1 (.frz (k := .int) (l := onTo g c 8) rfl rfl) ⟨rfl, rfl⟩
theorem cNext_spec (g:Hp) (c a:Int) (hl:g.light):Spec X 88 [] [g.tv,.int c,.int a] (Ret [] (.tup [.int ((nextO g c a).getD 0),.bo (nextO g c a).isSome])):=by
 refine spec_go X_ok Tryz.f88 (by kernel_rfl) (by kernel_rfl) (by kernel_rfl) fun hb hH=>⟨rfl,?_⟩
 show ACall _ _ _ _ _ _
 refine call_ret (On_spec g c hl) rfl ?_
 obtain ⟨O,hO⟩:∃ O,O=onH g c:=⟨_,rfl⟩
 have hlen:O.length≤8:=by
  rw [hO]
  unfold onH
  cases decide (0≤c∧c < (g.cards.length:Int))
  ·exact Nat.zero_le _
  ·exact onTo_len g c 8
 rw [← hO]
 obtain ⟨o,ho⟩:∃ o,o=nextO g c a:=⟨_,rfl⟩
 rw [← ho]
 show ∃ n,_
 refine ⟨0,ALoop.inv (ι:={i:Nat // i≤O.length∧nextO g c a=(O.drop i).find? fun b=>decide (a < b) && (headH g b).old}) (fun i=>⟨[(2,.int a),(3,.c (.d (.rp g.enc))),(14,.c (.d (.sl .int O))),(15,.int O.length),(16,.int i.1)],[],64⟩) (fun i=>O.length - i.1) ⟨0,Nat.zero_le _,by unfold nextO;rw [← hO];rfl⟩ ?_ ?_⟩
 ·exact ⟨[],.cons _ _ _ .same (.cons _ _ _ (.c _ _ (.frz _ _ rfl)) (.cons _ _ _ .same (.cons _ _ _ .same (.cons _ _ _ .same .nil)))),.nil,rfl⟩
 ·rintro ⟨i,hi,he⟩
  show ABr (decide ((i:Int) < (O.length:Int))) _ _
  refine ⟨fun h=>?_,fun h=>?_⟩
  ·have hlt:i < O.length:=by simpa using h
   have wi:IntKind.i64.wrap ((i:Int)+1)=((i+1:Nat):Int):=wrapP (i:=i) (by unfold maxN;omega)
   obtain ⟨b,hbb⟩:∃ b,b=O.getD i default:=⟨_,rfl⟩
   have hd:O.drop i=b :: O.drop (i+1):=by rw [hbb];exact drop_at0 hlt
   rw [hd,List.find?_cons] at he
   show AOb ((0:Int)≤(i:Int)∧(i:Int) < (O.length:Int)) _
   refine ⟨by omega,?_⟩
   show ABr (decide (O.getD i default≤a)) _ _
   rw [← hbb]
   refine ⟨fun h=>?_,fun h=>?_⟩
   ·have hle:=of_decide_eq_true h
    rw [decide_eq_false (by omega)] at he
    show ARound _ _ _ _
    exact ⟨⟨i+1,hlt,he⟩,by show O.length - (i+1) < O.length - i;omega,[],.cons _ _ _ .same (.cons _ _ _ .same (.cons _ _ _ .same (.cons _ _ _ .same (.cons _ _ _ (.int_eq wi) .nil)))),.nil,rfl⟩
   ·have hgt:=of_decide_eq_false h
    rw [decide_eq_true (by omega)] at he
    show ACall _ _ [_,.int (O.getD i default)] _ _ _
    rw [← hbb]
    refine call_ret (hHead_spec g b hl) rfl ?_
    show ABr (headH g b).old _ _
    refine ⟨fun h=>?_,fun h=>?_⟩
    ·rw [h] at he
     have e1:o=some b:=ho.trans he
     subst e1 hbb
     show ARet _ _ _
     exact ret_d rfl ⟨rfl,rfl⟩
    ·rw [h] at he
     show ARound _ _ _ _
     exact ⟨⟨i+1,hlt,he⟩,by show O.length - (i+1) < O.length - i;omega,[],.cons _ _ _ .same (.cons _ _ _ .same (.cons _ _ _ .same (.cons _ _ _ .same (.cons _ _ _ (.int_eq wi) .nil)))),.nil,rfl⟩
  ·have hge:i=O.length:=by simp at h;omega
   rw [hge,List.drop_length] at he
   have e1:o=none:=ho.trans he
   subst e1
   show ARet _ _ _
   exact ret_d rfl ⟨rfl,rfl⟩
end Go.Abs
