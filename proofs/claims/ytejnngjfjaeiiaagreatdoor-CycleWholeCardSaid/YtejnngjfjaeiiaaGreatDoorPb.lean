/- Walks and plain laws: WParts, WBreak, WHeapSort1, WPdq. -/
import Derived.Test.YtejnngjfjaeiiaaGreatDoorPa
set_option linter.all false
set_option linter.unusedVariables false
set_option linter.unusedSimpArgs false
namespace Go.Abs
open Go.Proofs Go.Proofs.YtejnngjfjaeiiaaGreatDoor
set_option maxRecDepth 8000
def EqQ (l:List Int) (a b q:Nat):Heap→TV→Prop:=fun H r=>∃ (mid:Nat) (l' : List Int),H=hp16 l'∧r = .int mid∧EqPart l l' a b (at0 l q) mid
def PartQ (l:List Int) (a b:Nat):Heap→TV→Prop:=fun H r=>∃ (mid:Nat) (x:Bool) (l' : List Int),H=hp16 l'∧r = .tup [.int mid,.bo x]∧Part2 l l' a b mid
set_option maxHeartbeats 2000000 in
theorem partEq_spec (l:List Int) (a b q:Nat) (haq:a≤q) (hqb:q < b) (hbl:b≤l.length):Spec X 207 (hp16 l) [.c (.own 16),.int a,.int b,.int q] (EqQ l a b q):=by
 refine spec_go X_ok Tryz.f207 (by kernel_rfl) (by kernel_rfl) (by kernel_rfl) fun hb hH=>⟨rfl,?_⟩
 have hmax:l.length≤maxN:=hH 16 .int l rfl
 have hmx:l.length≤140737488355328:=hmax
 have hp0:=Pt.start (l:=l) haq hqb hbl
 have hi0:IntKind.i64.wrap ((a:Int)+1)=((a+1:Nat):Int):=wrapN (by omega) (by omega)
 have hj0:IntKind.i64.wrap ((b:Int) - 1)=((b - 1:Nat):Int):=wrapN (by omega) (by omega)
 show AOb ((0:Int)≤(q:Int)∧(q:Int) < (l.length:Int)) _
 refine ⟨by omega,?_⟩
 show AOb (((q:Int)).toNat < l.length) _
 refine ⟨by omega,?_⟩
 show AOb ((0:Int)≤(a:Int)∧(a:Int) < (l.length:Int)) _
 refine ⟨by omega,?_⟩
 show AOb (((a:Int)).toNat < l.length) _
 refine ⟨by omega,?_⟩
 show AOb ((0:Int)≤(a:Int)∧(a:Int) < (l.length:Int)) _
 refine ⟨by omega,?_⟩
 show AOb (((a:Int)).toNat < l.length) _
 refine ⟨by omega,?_⟩
 show AOb ((0:Int)≤(q:Int)∧(q:Int) < ((l.set ((a:Int)).toNat (at0 l ((q:Int)).toNat)).length:Int)) _
 refine ⟨by rw [List.length_set];omega,?_⟩
 show AOb (((q:Int)).toNat < (l.set ((a:Int)).toNat (at0 l ((q:Int)).toNat)).length) _
 refine ⟨by rw [List.length_set];omega,?_⟩
 have es:((l.set ((a:Int)).toNat (at0 l ((q:Int)).toNat))).set ((q:Int)).toNat (at0 l ((a:Int)).toNat)=swp l a q:=by rfl
 show ∃ n,_
 refine ⟨0,ALoop.inv (ι:={p:List Int × Nat × Nat // Pt l p.1 a b (at0 l q) p.2.1 p.2.2}) (fun p=>⟨[(0,.c (.own 16)),(1,.int a),(9,.int p.1.2.1),(10,.int p.1.2.2)],[(16,.data .int p.1.1)],64⟩) (fun p=>p.1.2.2+1 - p.1.2.1) ⟨(swp l a q,a+1,b - 1),hp0⟩ ?_ ?_⟩
 ·exact ⟨[(16,16)],.cons _ _ _ (.c _ _ (.own _ _ rfl)) (.cons _ _ _ .same (.cons _ _ _ (.int_eq hi0) (.cons _ _ _ (.int_eq hj0) .nil))),.old 16 16 _ _ _ rfl rfl (.data_eq es) .nil,rfl⟩
 ·rintro ⟨⟨m0,i0,j0⟩,hP⟩
  have hle0:i0≤j0+1:=hP.ij
  show ∃ n,_
  refine ⟨0,ALoop.inv (ι:={p:List Int × Nat × Nat // Pt l p.1 a b (at0 l q) p.2.1 p.2.2∧i0≤p.2.1∧p.2.2≤j0}) (fun p=>⟨[(0,.c (.own 16)),(1,.int a),(9,.int p.1.2.1),(10,.int p.1.2.2)],[(16,.data .int p.1.1)],64⟩) (fun p=>p.1.2.2+1 - p.1.2.1) ⟨(m0,i0,j0),hP,Nat.le_refl _,Nat.le_refl _⟩ ?_ ?_⟩
  ·exact ⟨[(16,16)],.cons _ _ _ (.c _ _ (.own _ _ rfl)) (.cons _ _ _ .same (.cons _ _ _ .same (.cons _ _ _ .same .nil))),.old 16 16 _ _ _ rfl rfl (.data_eq rfl) .nil,rfl⟩
  ·rintro ⟨⟨m,i,j⟩,hP,hi0,hj0⟩
   have hi0:i0≤i:=hi0
   have hj0:j≤j0:=hj0
   have hml:m.length=l.length:=hP.srt.len
   have hai:a < i:=hP.ai
   have hij:i≤j+1:=hP.ij
   have hjb:j < b:=hP.jb
   have hap:at0 m a=at0 l q:=hP.piv
   have hwi:=wrapP (i:=i) (by omega)
   show ABr (decide ((i:Int)≤(j:Int))) _ _
   refine ⟨fun hx=>?_,fun hx=>?_⟩
   ·have hle:i≤j:=by simp at hx;omega
    show AOb ((0:Int)≤(a:Int)∧(a:Int) < (m.length:Int)) _
    refine ⟨by omega,?_⟩
    show AOb (((a:Int)).toNat < m.length) _
    refine ⟨by omega,?_⟩
    show AOb ((0:Int)≤(i:Int)∧(i:Int) < (m.length:Int)) _
    refine ⟨by omega,?_⟩
    show AOb (((i:Int)).toNat < m.length) _
    refine ⟨by omega,?_⟩
    show ADCall _ _ _ _ _ _
    refine .mk [] _ (Less_spec (at0 m ((a:Int)).toNat) (at0 m ((i:Int)).toNat)) rfl ?_
    show ABr (!decide (at0 m a < at0 m i)) _ _
    refine ⟨fun hz=>?_,fun hz=>?_⟩
    ·have hy:at0 m i≤at0 l q:=by simp at hz;omega
     show ARound _ _ _ _
     exact ⟨⟨(m,i+1,j),hP.up hle hy,by show i0≤i+1;omega,hj0⟩,by show j+1 - (i+1) < j+1 - i;omega,[(16,16)],.cons _ _ _ (.c _ _ (.own _ _ rfl)) (.cons _ _ _ .same (.cons _ _ _ (.int_eq hwi) (.cons _ _ _ .same .nil))),.old 16 16 _ _ _ rfl rfl (.data_eq rfl) .nil,rfl⟩
    ·have hn:at0 l q≤at0 m i∧at0 l q < at0 m i:=by simp at hz;omega
     show ∃ n,_
     refine ⟨0,ALoop.inv (ι:={p:Nat // Pt l m a b (at0 l q) i p∧p≤j}) (fun p=>⟨[(0,.c (.own 16)),(1,.int a),(9,.int i),(10,.int p.1)],[(16,.data .int m)],64⟩) (fun p=>p.1) ⟨j,hP,Nat.le_refl _⟩ ?_ ?_⟩
     ·exact ⟨[(16,16)],.cons _ _ _ (.c _ _ (.own _ _ rfl)) (.cons _ _ _ .same (.cons _ _ _ .same (.cons _ _ _ .same .nil))),.old 16 16 _ _ _ rfl rfl (.data_eq rfl) .nil,rfl⟩
     ·rintro ⟨k,hP,hkj⟩
      have hml:m.length=l.length:=hP.srt.len
      have hai:a < i:=hP.ai
      have hij:i≤k+1:=hP.ij
      have hjb:k < b:=hP.jb
      have hap:at0 m a=at0 l q:=hP.piv
      have hwi:=wrapP (i:=i) (by omega)
      show ABr (decide ((i:Int)≤(k:Int))) _ _
      refine ⟨fun hx=>?_,fun hx=>?_⟩
      ·have hle:i≤k:=by simp at hx;omega
       have hwk:=wrapM (i:=k) (by omega) (by omega)
       show AOb ((0:Int)≤(a:Int)∧(a:Int) < (m.length:Int)) _
       refine ⟨by omega,?_⟩
       show AOb (((a:Int)).toNat < m.length) _
       refine ⟨by omega,?_⟩
       show AOb ((0:Int)≤(k:Int)∧(k:Int) < (m.length:Int)) _
       refine ⟨by omega,?_⟩
       show AOb (((k:Int)).toNat < m.length) _
       refine ⟨by omega,?_⟩
       show ADCall _ _ _ _ _ _
       refine .mk [] _ (Less_spec (at0 m ((a:Int)).toNat) (at0 m ((k:Int)).toNat)) rfl ?_
       show ABr (decide (at0 m a < at0 m k)) _ _
       refine ⟨fun hz=>?_,fun hz=>?_⟩
       ·have hy:at0 l q≤at0 m k:=by simp at hz;omega
        show ARound _ _ _ _
        exact ⟨⟨k - 1,hP.down hle hy,by show k - 1≤j;omega⟩,by show k - 1 < k;omega,[(16,16)],.cons _ _ _ (.c _ _ (.own _ _ rfl)) (.cons _ _ _ .same (.cons _ _ _ .same (.cons _ _ _ (.int_eq hwk) .nil))),.old 16 16 _ _ _ rfl rfl (.data_eq rfl) .nil,rfl⟩
       ·have hk:at0 m k≤at0 l q∧at0 m k≤at0 l q:=by simp at hz;omega
        have hlt:i < k:=Nat.lt_of_le_of_ne hle (fun e=>by rw [e] at hn;omega)
        show ABr (decide ((i:Int) > (k:Int))) _ _
        refine ⟨fun hx=>absurd hx (by simp;omega),fun _=>?_⟩
        show AOb ((0:Int)≤(k:Int)∧(k:Int) < (m.length:Int)) _
        refine ⟨by omega,?_⟩
        show AOb (((k:Int)).toNat < m.length) _
        refine ⟨by omega,?_⟩
        show AOb ((0:Int)≤(i:Int)∧(i:Int) < (m.length:Int)) _
        refine ⟨by omega,?_⟩
        show AOb (((i:Int)).toNat < m.length) _
        refine ⟨by omega,?_⟩
        show AOb ((0:Int)≤(i:Int)∧(i:Int) < (m.length:Int)) _
        refine ⟨by omega,?_⟩
        show AOb (((i:Int)).toNat < m.length) _
        refine ⟨by omega,?_⟩
        show AOb ((0:Int)≤(k:Int)∧(k:Int) < ((m.set ((i:Int)).toNat (at0 m ((k:Int)).toNat)).length:Int)) _
        refine ⟨by rw [List.length_set];omega,?_⟩
        show AOb (((k:Int)).toNat < (m.set ((i:Int)).toNat (at0 m ((k:Int)).toNat)).length) _
        refine ⟨by rw [List.length_set];omega,?_⟩
        have es:((m.set ((i:Int)).toNat (at0 m ((k:Int)).toNat))).set ((k:Int)).toNat (at0 m ((i:Int)).toNat)=swp m i k:=by rfl
        show ARound _ _ _ _
        exact ⟨⟨(swp m i k,i+1,k - 1),hP.swap hbl hlt hn.1 hk.1⟩,by show k - 1+1 - (i+1) < j0+1 - i0;omega,[(16,16)],.cons _ _ _ (.c _ _ (.own _ _ rfl)) (.cons _ _ _ .same (.cons _ _ _ (.int_eq hwi) (.cons _ _ _ (.int_eq hwk) .nil))),.old 16 16 _ _ _ rfl rfl (.data_eq es) .nil,rfl⟩
      ·have hgt:k < i:=by simp at hx;omega
       show ABr _ _ _
       refine ⟨fun hx=>absurd hx (by decide),fun _=>?_⟩
       show ABr (decide ((i:Int) > (k:Int))) _ _
       refine ⟨fun _=>?_,fun hx=>absurd hx (by simp;omega)⟩
       show ARet _ _ _
       exact ⟨[(16,16)],hp16 m,[.int i],.cons _ _ _ _ .same .nil,.old 16 16 _ _ _ rfl rfl (.data_eq rfl) .nil,rfl,i,m,rfl,rfl,hP.eq hgt⟩
   ·have hgt:j < i:=by simp at hx;omega
    show ABr _ _ _
    refine ⟨fun hx=>absurd hx (by decide),fun _=>?_⟩
    show ∃ n,_
    refine ⟨1,.next ?_⟩
    show ABr (decide ((i:Int)≤(j:Int))) _ _
    refine ⟨fun hx=>absurd hx (by simp;omega),fun _=>?_⟩
    show ABr _ _ _
    refine ⟨fun hx=>absurd hx (by decide),fun _=>?_⟩
    show ABr (decide ((i:Int) > (j:Int))) _ _
    refine ⟨fun _=>?_,fun hx=>absurd hx (by simp;omega)⟩
    show ARet _ _ _
    exact ⟨[(16,16)],hp16 m,[.int i],.cons _ _ _ _ .same .nil,.old 16 16 _ _ _ rfl rfl (.data_eq rfl) .nil,rfl,i,m,rfl,rfl,hP.eq hgt⟩
set_option maxHeartbeats 2000000 in
theorem part_spec (l:List Int) (a b q:Nat) (haq:a≤q) (hqb:q < b) (hbl:b≤l.length):Spec X 208 (hp16 l) [.c (.own 16),.int a,.int b,.int q] (PartQ l a b):=by
 refine spec_go X_ok Tryz.f208 (by kernel_rfl) (by kernel_rfl) (by kernel_rfl) fun hb hH=>⟨rfl,?_⟩
 have hmax:l.length≤maxN:=hH 16 .int l rfl
 have hmx:l.length≤140737488355328:=hmax
 have hp0:=Pt.start (l:=l) haq hqb hbl
 have hi0:IntKind.i64.wrap ((a:Int)+1)=((a+1:Nat):Int):=wrapN (by omega) (by omega)
 have hj0:IntKind.i64.wrap ((b:Int) - 1)=((b - 1:Nat):Int):=wrapN (by omega) (by omega)
 show AOb ((0:Int)≤(q:Int)∧(q:Int) < (l.length:Int)) _
 refine ⟨by omega,?_⟩
 show AOb (((q:Int)).toNat < l.length) _
 refine ⟨by omega,?_⟩
 show AOb ((0:Int)≤(a:Int)∧(a:Int) < (l.length:Int)) _
 refine ⟨by omega,?_⟩
 show AOb (((a:Int)).toNat < l.length) _
 refine ⟨by omega,?_⟩
 show AOb ((0:Int)≤(a:Int)∧(a:Int) < (l.length:Int)) _
 refine ⟨by omega,?_⟩
 show AOb (((a:Int)).toNat < l.length) _
 refine ⟨by omega,?_⟩
 show AOb ((0:Int)≤(q:Int)∧(q:Int) < ((l.set ((a:Int)).toNat (at0 l ((q:Int)).toNat)).length:Int)) _
 refine ⟨by rw [List.length_set];omega,?_⟩
 show AOb (((q:Int)).toNat < (l.set ((a:Int)).toNat (at0 l ((q:Int)).toNat)).length) _
 refine ⟨by rw [List.length_set];omega,?_⟩
 have es:((l.set ((a:Int)).toNat (at0 l ((q:Int)).toNat))).set ((q:Int)).toNat (at0 l ((a:Int)).toNat)=swp l a q:=by rfl
 show ∃ n,_
 refine ⟨0,ALoop.inv (ι:={p:List Int × Nat × Nat // Pt l p.1 a b (at0 l q) p.2.1 p.2.2}) (fun p=>⟨[(0,.c (.own 16)),(1,.int a),(10,.int p.1.2.1),(11,.int p.1.2.2)],[(16,.data .int p.1.1)],64⟩) (fun p=>p.1.2.2+1 - p.1.2.1) ⟨(swp l a q,a+1,b - 1),hp0⟩ ?_ ?_⟩
 ·exact ⟨[(16,16)],.cons _ _ _ (.c _ _ (.own _ _ rfl)) (.cons _ _ _ .same (.cons _ _ _ (.int_eq hi0) (.cons _ _ _ (.int_eq hj0) .nil))),.old 16 16 _ _ _ rfl rfl (.data_eq es) .nil,rfl⟩
 ·rintro ⟨⟨m,i,j⟩,hP⟩
  have hml:m.length=l.length:=hP.srt.len
  have hai:a < i:=hP.ai
  have hij:i≤j+1:=hP.ij
  have hjb:j < b:=hP.jb
  have hap:at0 m a=at0 l q:=hP.piv
  have hwi:=wrapP (i:=i) (by omega)
  show ABr (decide ((i:Int)≤(j:Int))) _ _
  refine ⟨fun hx=>?_,fun hx=>?_⟩
  ·have hle:i≤j:=by simp at hx;omega
   show AOb ((0:Int)≤(i:Int)∧(i:Int) < (m.length:Int)) _
   refine ⟨by omega,?_⟩
   show AOb (((i:Int)).toNat < m.length) _
   refine ⟨by omega,?_⟩
   show AOb ((0:Int)≤(a:Int)∧(a:Int) < (m.length:Int)) _
   refine ⟨by omega,?_⟩
   show AOb (((a:Int)).toNat < m.length) _
   refine ⟨by omega,?_⟩
   show ADCall _ _ _ _ _ _
   refine .mk [] _ (Less_spec (at0 m ((i:Int)).toNat) (at0 m ((a:Int)).toNat)) rfl ?_
   show ABr (decide (at0 m i < at0 m a)) _ _
   refine ⟨fun hz=>?_,fun hz=>?_⟩
   ·have hy:at0 m i≤at0 l q:=by simp at hz;omega
    show ARound _ _ _ _
    exact ⟨⟨(m,i+1,j),hP.up hle hy⟩,by show j+1 - (i+1) < j+1 - i;omega,[(16,16)],.cons _ _ _ (.c _ _ (.own _ _ rfl)) (.cons _ _ _ .same (.cons _ _ _ (.int_eq hwi) (.cons _ _ _ .same .nil))),.old 16 16 _ _ _ rfl rfl (.data_eq rfl) .nil,rfl⟩
   ·have hn:at0 l q≤at0 m i∧at0 l q≤at0 m i:=by simp at hz;omega
    show ∃ n,_
    refine ⟨0,ALoop.inv (ι:={p:Nat // Pt l m a b (at0 l q) i p∧p≤j}) (fun p=>⟨[(0,.c (.own 16)),(1,.int a),(10,.int i),(11,.int p.1)],[(16,.data .int m)],64⟩) (fun p=>p.1) ⟨j,hP,Nat.le_refl _⟩ ?_ ?_⟩
    ·exact ⟨[(16,16)],.cons _ _ _ (.c _ _ (.own _ _ rfl)) (.cons _ _ _ .same (.cons _ _ _ .same (.cons _ _ _ .same .nil))),.old 16 16 _ _ _ rfl rfl (.data_eq rfl) .nil,rfl⟩
    ·rintro ⟨k,hP,hkj⟩
     have hml:m.length=l.length:=hP.srt.len
     have hai:a < i:=hP.ai
     have hij:i≤k+1:=hP.ij
     have hjb:k < b:=hP.jb
     have hap:at0 m a=at0 l q:=hP.piv
     have hwi:=wrapP (i:=i) (by omega)
     show ABr (decide ((i:Int)≤(k:Int))) _ _
     refine ⟨fun hx=>?_,fun hx=>?_⟩
     ·have hle:i≤k:=by simp at hx;omega
      have hwk:=wrapM (i:=k) (by omega) (by omega)
      show AOb ((0:Int)≤(k:Int)∧(k:Int) < (m.length:Int)) _
      refine ⟨by omega,?_⟩
      show AOb (((k:Int)).toNat < m.length) _
      refine ⟨by omega,?_⟩
      show AOb ((0:Int)≤(a:Int)∧(a:Int) < (m.length:Int)) _
      refine ⟨by omega,?_⟩
      show AOb (((a:Int)).toNat < m.length) _
      refine ⟨by omega,?_⟩
      show ADCall _ _ _ _ _ _
      refine .mk [] _ (Less_spec (at0 m ((k:Int)).toNat) (at0 m ((a:Int)).toNat)) rfl ?_
      show ABr (!decide (at0 m k < at0 m a)) _ _
      refine ⟨fun hz=>?_,fun hz=>?_⟩
      ·have hy:at0 l q≤at0 m k:=by simp at hz;omega
       show ARound _ _ _ _
       exact ⟨⟨k - 1,hP.down hle hy,by show k - 1≤j;omega⟩,by show k - 1 < k;omega,[(16,16)],.cons _ _ _ (.c _ _ (.own _ _ rfl)) (.cons _ _ _ .same (.cons _ _ _ .same (.cons _ _ _ (.int_eq hwk) .nil))),.old 16 16 _ _ _ rfl rfl (.data_eq rfl) .nil,rfl⟩
      ·have hk:at0 m k≤at0 l q∧at0 m k < at0 l q:=by simp at hz;omega
       have hlt:i < k:=Nat.lt_of_le_of_ne hle (fun e=>by rw [e] at hn;omega)
       show ABr (decide ((i:Int) > (k:Int))) _ _
       refine ⟨fun hx=>absurd hx (by simp;omega),fun _=>?_⟩
       show AOb ((0:Int)≤(k:Int)∧(k:Int) < (m.length:Int)) _
       refine ⟨by omega,?_⟩
       show AOb (((k:Int)).toNat < m.length) _
       refine ⟨by omega,?_⟩
       show AOb ((0:Int)≤(i:Int)∧(i:Int) < (m.length:Int)) _
       refine ⟨by omega,?_⟩
       show AOb (((i:Int)).toNat < m.length) _
       refine ⟨by omega,?_⟩
       show AOb ((0:Int)≤(i:Int)∧(i:Int) < (m.length:Int)) _
       refine ⟨by omega,?_⟩
       show AOb (((i:Int)).toNat < m.length) _
       refine ⟨by omega,?_⟩
       show AOb ((0:Int)≤(k:Int)∧(k:Int) < ((m.set ((i:Int)).toNat (at0 m ((k:Int)).toNat)).length:Int)) _
       refine ⟨by rw [List.length_set];omega,?_⟩
       show AOb (((k:Int)).toNat < (m.set ((i:Int)).toNat (at0 m ((k:Int)).toNat)).length) _
       refine ⟨by rw [List.length_set];omega,?_⟩
       have es:((m.set ((i:Int)).toNat (at0 m ((k:Int)).toNat))).set ((k:Int)).toNat (at0 m ((i:Int)).toNat)=swp m i k:=by rfl
       show ∃ n,_
       refine ⟨0,ALoop.inv (ι:={p:List Int × Nat × Nat // Pt l p.1 a b (at0 l q) p.2.1 p.2.2}) (fun p=>⟨[(0,.c (.own 16)),(1,.int a),(10,.int p.1.2.1),(11,.int p.1.2.2)],[(16,.data .int p.1.1)],64⟩) (fun p=>p.1.2.2+1 - p.1.2.1) ⟨(swp m i k,i+1,k - 1),hP.swap hbl hlt hn.1 hk.1⟩ ?_ ?_⟩
       ·exact ⟨[(16,16)],.cons _ _ _ (.c _ _ (.own _ _ rfl)) (.cons _ _ _ .same (.cons _ _ _ (.int_eq hwi) (.cons _ _ _ (.int_eq hwk) .nil))),.old 16 16 _ _ _ rfl rfl (.data_eq es) .nil,rfl⟩
       ·clear hn hk hlt hml hai hij hjb hap hwi hwk hle hx hz hP hkj
        rintro ⟨⟨m0,i0,j0⟩,hP⟩
        have hle0:i0≤j0+1:=hP.ij
        show ∃ n,_
        refine ⟨0,ALoop.inv (ι:={p:List Int × Nat × Nat // Pt l p.1 a b (at0 l q) p.2.1 p.2.2∧i0≤p.2.1∧p.2.2≤j0}) (fun p=>⟨[(0,.c (.own 16)),(1,.int a),(10,.int p.1.2.1),(11,.int p.1.2.2)],[(16,.data .int p.1.1)],64⟩) (fun p=>p.1.2.2+1 - p.1.2.1) ⟨(m0,i0,j0),hP,Nat.le_refl _,Nat.le_refl _⟩ ?_ ?_⟩
        ·exact ⟨[(16,16)],.cons _ _ _ (.c _ _ (.own _ _ rfl)) (.cons _ _ _ .same (.cons _ _ _ .same (.cons _ _ _ .same .nil))),.old 16 16 _ _ _ rfl rfl (.data_eq rfl) .nil,rfl⟩
        ·rintro ⟨⟨m,i,j⟩,hP,hi0,hj0⟩
         have hi0:i0≤i:=hi0
         have hj0:j≤j0:=hj0
         have hml:m.length=l.length:=hP.srt.len
         have hai:a < i:=hP.ai
         have hij:i≤j+1:=hP.ij
         have hjb:j < b:=hP.jb
         have hap:at0 m a=at0 l q:=hP.piv
         have hwi:=wrapP (i:=i) (by omega)
         show ABr (decide ((i:Int)≤(j:Int))) _ _
         refine ⟨fun hx=>?_,fun hx=>?_⟩
         ·have hle:i≤j:=by simp at hx;omega
          show AOb ((0:Int)≤(i:Int)∧(i:Int) < (m.length:Int)) _
          refine ⟨by omega,?_⟩
          show AOb (((i:Int)).toNat < m.length) _
          refine ⟨by omega,?_⟩
          show AOb ((0:Int)≤(a:Int)∧(a:Int) < (m.length:Int)) _
          refine ⟨by omega,?_⟩
          show AOb (((a:Int)).toNat < m.length) _
          refine ⟨by omega,?_⟩
          show ADCall _ _ _ _ _ _
          refine .mk [] _ (Less_spec (at0 m ((i:Int)).toNat) (at0 m ((a:Int)).toNat)) rfl ?_
          show ABr (decide (at0 m i < at0 m a)) _ _
          refine ⟨fun hz=>?_,fun hz=>?_⟩
          ·have hy:at0 m i≤at0 l q:=by simp at hz;omega
           show ARound _ _ _ _
           exact ⟨⟨(m,i+1,j),hP.up hle hy,by show i0≤i+1;omega,hj0⟩,by show j+1 - (i+1) < j+1 - i;omega,[(16,16)],.cons _ _ _ (.c _ _ (.own _ _ rfl)) (.cons _ _ _ .same (.cons _ _ _ (.int_eq hwi) (.cons _ _ _ .same .nil))),.old 16 16 _ _ _ rfl rfl (.data_eq rfl) .nil,rfl⟩
          ·have hn:at0 l q≤at0 m i∧at0 l q≤at0 m i:=by simp at hz;omega
           show ∃ n,_
           refine ⟨0,ALoop.inv (ι:={p:Nat // Pt l m a b (at0 l q) i p∧p≤j}) (fun p=>⟨[(0,.c (.own 16)),(1,.int a),(10,.int i),(11,.int p.1)],[(16,.data .int m)],64⟩) (fun p=>p.1) ⟨j,hP,Nat.le_refl _⟩ ?_ ?_⟩
           ·exact ⟨[(16,16)],.cons _ _ _ (.c _ _ (.own _ _ rfl)) (.cons _ _ _ .same (.cons _ _ _ .same (.cons _ _ _ .same .nil))),.old 16 16 _ _ _ rfl rfl (.data_eq rfl) .nil,rfl⟩
           ·rintro ⟨k,hP,hkj⟩
            have hml:m.length=l.length:=hP.srt.len
            have hai:a < i:=hP.ai
            have hij:i≤k+1:=hP.ij
            have hjb:k < b:=hP.jb
            have hap:at0 m a=at0 l q:=hP.piv
            have hwi:=wrapP (i:=i) (by omega)
            show ABr (decide ((i:Int)≤(k:Int))) _ _
            refine ⟨fun hx=>?_,fun hx=>?_⟩
            ·have hle:i≤k:=by simp at hx;omega
             have hwk:=wrapM (i:=k) (by omega) (by omega)
             show AOb ((0:Int)≤(k:Int)∧(k:Int) < (m.length:Int)) _
             refine ⟨by omega,?_⟩
             show AOb (((k:Int)).toNat < m.length) _
             refine ⟨by omega,?_⟩
             show AOb ((0:Int)≤(a:Int)∧(a:Int) < (m.length:Int)) _
             refine ⟨by omega,?_⟩
             show AOb (((a:Int)).toNat < m.length) _
             refine ⟨by omega,?_⟩
             show ADCall _ _ _ _ _ _
             refine .mk [] _ (Less_spec (at0 m ((k:Int)).toNat) (at0 m ((a:Int)).toNat)) rfl ?_
             show ABr (!decide (at0 m k < at0 m a)) _ _
             refine ⟨fun hz=>?_,fun hz=>?_⟩
             ·have hy:at0 l q≤at0 m k:=by simp at hz;omega
              show ARound _ _ _ _
              exact ⟨⟨k - 1,hP.down hle hy,by show k - 1≤j;omega⟩,by show k - 1 < k;omega,[(16,16)],.cons _ _ _ (.c _ _ (.own _ _ rfl)) (.cons _ _ _ .same (.cons _ _ _ .same (.cons _ _ _ (.int_eq hwk) .nil))),.old 16 16 _ _ _ rfl rfl (.data_eq rfl) .nil,rfl⟩
             ·have hk:at0 m k≤at0 l q∧at0 m k < at0 l q:=by simp at hz;omega
              have hlt:i < k:=Nat.lt_of_le_of_ne hle (fun e=>by rw [e] at hn;omega)
              show ABr (decide ((i:Int) > (k:Int))) _ _
              refine ⟨fun hx=>absurd hx (by simp;omega),fun _=>?_⟩
              show AOb ((0:Int)≤(k:Int)∧(k:Int) < (m.length:Int)) _
              refine ⟨by omega,?_⟩
              show AOb (((k:Int)).toNat < m.length) _
              refine ⟨by omega,?_⟩
              show AOb ((0:Int)≤(i:Int)∧(i:Int) < (m.length:Int)) _
              refine ⟨by omega,?_⟩
              show AOb (((i:Int)).toNat < m.length) _
              refine ⟨by omega,?_⟩
              show AOb ((0:Int)≤(i:Int)∧(i:Int) < (m.length:Int)) _
              refine ⟨by omega,?_⟩
              show AOb (((i:Int)).toNat < m.length) _
              refine ⟨by omega,?_⟩
              show AOb ((0:Int)≤(k:Int)∧(k:Int) < ((m.set ((i:Int)).toNat (at0 m ((k:Int)).toNat)).length:Int)) _
              refine ⟨by rw [List.length_set];omega,?_⟩
              show AOb (((k:Int)).toNat < (m.set ((i:Int)).toNat (at0 m ((k:Int)).toNat)).length) _
              refine ⟨by rw [List.length_set];omega,?_⟩
              have es:((m.set ((i:Int)).toNat (at0 m ((k:Int)).toNat))).set ((k:Int)).toNat (at0 m ((i:Int)).toNat)=swp m i k:=by rfl
              show ARound _ _ _ _
              exact ⟨⟨(swp m i k,i+1,k - 1),hP.swap hbl hlt hn.1 hk.1⟩,by show k - 1+1 - (i+1) < j0+1 - i0;omega,[(16,16)],.cons _ _ _ (.c _ _ (.own _ _ rfl)) (.cons _ _ _ .same (.cons _ _ _ (.int_eq hwi) (.cons _ _ _ (.int_eq hwk) .nil))),.old 16 16 _ _ _ rfl rfl (.data_eq es) .nil,rfl⟩
            ·have hgt:k < i:=by simp at hx;omega
             show ABr _ _ _
             refine ⟨fun hx=>absurd hx (by decide),fun _=>?_⟩
             show ABr (decide ((i:Int) > (k:Int))) _ _
             refine ⟨fun _=>?_,fun hx=>absurd hx (by simp;omega)⟩
             show AOb ((0:Int)≤(a:Int)∧(a:Int) < (m.length:Int)) _
             refine ⟨by omega,?_⟩
             show AOb (((a:Int)).toNat < m.length) _
             refine ⟨by omega,?_⟩
             show AOb ((0:Int)≤(k:Int)∧(k:Int) < (m.length:Int)) _
             refine ⟨by omega,?_⟩
             show AOb (((k:Int)).toNat < m.length) _
             refine ⟨by omega,?_⟩
             show AOb ((0:Int)≤(k:Int)∧(k:Int) < (m.length:Int)) _
             refine ⟨by omega,?_⟩
             show AOb (((k:Int)).toNat < m.length) _
             refine ⟨by omega,?_⟩
             show AOb ((0:Int)≤(a:Int)∧(a:Int) < ((m.set ((k:Int)).toNat (at0 m ((a:Int)).toNat)).length:Int)) _
             refine ⟨by rw [List.length_set];omega,?_⟩
             show AOb (((a:Int)).toNat < (m.set ((k:Int)).toNat (at0 m ((a:Int)).toNat)).length) _
             refine ⟨by rw [List.length_set];omega,?_⟩
             have es:((m.set ((k:Int)).toNat (at0 m ((a:Int)).toNat))).set ((a:Int)).toNat (at0 m ((k:Int)).toNat)=swp m k a:=by rfl
             show ARet _ _ _
             exact ⟨[(16,16)],hp16 (swp m k a),[.int k,.bo false],.cons _ _ _ _ .same (.cons _ _ _ _ .same .nil),.old 16 16 _ _ _ rfl rfl (.data_eq es) .nil,rfl,k,false,_,rfl,rfl,hP.part hbl hgt⟩
         ·have hgt:j < i:=by simp at hx;omega
          show ABr _ _ _
          refine ⟨fun hx=>absurd hx (by decide),fun _=>?_⟩
          show ∃ n,_
          refine ⟨1,.next ?_⟩
          show ABr (decide ((i:Int)≤(j:Int))) _ _
          refine ⟨fun hx=>absurd hx (by simp;omega),fun _=>?_⟩
          show ABr _ _ _
          refine ⟨fun hx=>absurd hx (by decide),fun _=>?_⟩
          show ABr (decide ((i:Int) > (j:Int))) _ _
          refine ⟨fun _=>?_,fun hx=>absurd hx (by simp;omega)⟩
          show AOb ((0:Int)≤(a:Int)∧(a:Int) < (m.length:Int)) _
          refine ⟨by omega,?_⟩
          show AOb (((a:Int)).toNat < m.length) _
          refine ⟨by omega,?_⟩
          show AOb ((0:Int)≤(j:Int)∧(j:Int) < (m.length:Int)) _
          refine ⟨by omega,?_⟩
          show AOb (((j:Int)).toNat < m.length) _
          refine ⟨by omega,?_⟩
          show AOb ((0:Int)≤(j:Int)∧(j:Int) < (m.length:Int)) _
          refine ⟨by omega,?_⟩
          show AOb (((j:Int)).toNat < m.length) _
          refine ⟨by omega,?_⟩
          show AOb ((0:Int)≤(a:Int)∧(a:Int) < ((m.set ((j:Int)).toNat (at0 m ((a:Int)).toNat)).length:Int)) _
          refine ⟨by rw [List.length_set];omega,?_⟩
          show AOb (((a:Int)).toNat < (m.set ((j:Int)).toNat (at0 m ((a:Int)).toNat)).length) _
          refine ⟨by rw [List.length_set];omega,?_⟩
          have es:((m.set ((j:Int)).toNat (at0 m ((a:Int)).toNat))).set ((a:Int)).toNat (at0 m ((j:Int)).toNat)=swp m j a:=by rfl
          show ARet _ _ _
          exact ⟨[(16,16)],hp16 (swp m j a),[.int j,.bo false],.cons _ _ _ _ .same (.cons _ _ _ _ .same .nil),.old 16 16 _ _ _ rfl rfl (.data_eq es) .nil,rfl,j,false,_,rfl,rfl,hP.part hbl hgt⟩
     ·have hgt:k < i:=by simp at hx;omega
      show ABr _ _ _
      refine ⟨fun hx=>absurd hx (by decide),fun _=>?_⟩
      show ABr (decide ((i:Int) > (k:Int))) _ _
      refine ⟨fun _=>?_,fun hx=>absurd hx (by simp;omega)⟩
      show AOb ((0:Int)≤(a:Int)∧(a:Int) < (m.length:Int)) _
      refine ⟨by omega,?_⟩
      show AOb (((a:Int)).toNat < m.length) _
      refine ⟨by omega,?_⟩
      show AOb ((0:Int)≤(k:Int)∧(k:Int) < (m.length:Int)) _
      refine ⟨by omega,?_⟩
      show AOb (((k:Int)).toNat < m.length) _
      refine ⟨by omega,?_⟩
      show AOb ((0:Int)≤(k:Int)∧(k:Int) < (m.length:Int)) _
      refine ⟨by omega,?_⟩
      show AOb (((k:Int)).toNat < m.length) _
      refine ⟨by omega,?_⟩
      show AOb ((0:Int)≤(a:Int)∧(a:Int) < ((m.set ((k:Int)).toNat (at0 m ((a:Int)).toNat)).length:Int)) _
      refine ⟨by rw [List.length_set];omega,?_⟩
      show AOb (((a:Int)).toNat < (m.set ((k:Int)).toNat (at0 m ((a:Int)).toNat)).length) _
      refine ⟨by rw [List.length_set];omega,?_⟩
      have es:((m.set ((k:Int)).toNat (at0 m ((a:Int)).toNat))).set ((a:Int)).toNat (at0 m ((k:Int)).toNat)=swp m k a:=by rfl
      show ARet _ _ _
      exact ⟨[(16,16)],hp16 (swp m k a),[.int k,.bo true],.cons _ _ _ _ .same (.cons _ _ _ _ .same .nil),.old 16 16 _ _ _ rfl rfl (.data_eq es) .nil,rfl,k,true,_,rfl,rfl,hP.part hbl hgt⟩
  ·have hgt:j < i:=by simp at hx;omega
   show ABr _ _ _
   refine ⟨fun hx=>absurd hx (by decide),fun _=>?_⟩
   show ∃ n,_
   refine ⟨1,.next ?_⟩
   show ABr (decide ((i:Int)≤(j:Int))) _ _
   refine ⟨fun hx=>absurd hx (by simp;omega),fun _=>?_⟩
   show ABr _ _ _
   refine ⟨fun hx=>absurd hx (by decide),fun _=>?_⟩
   show ABr (decide ((i:Int) > (j:Int))) _ _
   refine ⟨fun _=>?_,fun hx=>absurd hx (by simp;omega)⟩
   show AOb ((0:Int)≤(a:Int)∧(a:Int) < (m.length:Int)) _
   refine ⟨by omega,?_⟩
   show AOb (((a:Int)).toNat < m.length) _
   refine ⟨by omega,?_⟩
   show AOb ((0:Int)≤(j:Int)∧(j:Int) < (m.length:Int)) _
   refine ⟨by omega,?_⟩
   show AOb (((j:Int)).toNat < m.length) _
   refine ⟨by omega,?_⟩
   show AOb ((0:Int)≤(j:Int)∧(j:Int) < (m.length:Int)) _
   refine ⟨by omega,?_⟩
   show AOb (((j:Int)).toNat < m.length) _
   refine ⟨by omega,?_⟩
   show AOb ((0:Int)≤(a:Int)∧(a:Int) < ((m.set ((j:Int)).toNat (at0 m ((a:Int)).toNat)).length:Int)) _
   refine ⟨by rw [List.length_set];omega,?_⟩
   show AOb (((a:Int)).toNat < (m.set ((j:Int)).toNat (at0 m ((a:Int)).toNat)).length) _
   refine ⟨by rw [List.length_set];omega,?_⟩
   have es:((m.set ((j:Int)).toNat (at0 m ((a:Int)).toNat))).set ((a:Int)).toNat (at0 m ((j:Int)).toNat)=swp m j a:=by rfl
   show ARet _ _ _
   exact ⟨[(16,16)],hp16 (swp m j a),[.int j,.bo true],.cons _ _ _ _ .same (.cons _ _ _ _ .same .nil),.old 16 16 _ _ _ rfl rfl (.data_eq es) .nil,rfl,j,true,_,rfl,rfl,hP.part hbl hgt⟩
end Go.Abs
namespace Go.Abs
open Go.Proofs Go.Proofs.YtejnngjfjaeiiaaGreatDoor
set_option maxRecDepth 8000
theorem Sorted.swp_out {m:List Int} {a i c x:Nat} (h:Sorted m a i) (h1:i≤c) (h2:i≤x) (hc:c < m.length) (hx:x < m.length):Sorted (swp m c x) a i:=fun p q h3 h4 h5=>by
 rw [swp_at m c x p hc hx,swp_at m c x q hc hx,if_neg (by omega),if_neg (by omega),if_neg (by omega),if_neg (by omega)]
 exact h p q h3 h4 h5
def PinsQ (l:List Int) (a b:Nat):Heap→TV→Prop:=fun H r=>∃ (x:Bool) (l' : List Int),H=hp16 l'∧r = .bo x∧Srt l l' a b∧(x=true→Sorted l' a b)
set_option maxHeartbeats 2000000 in
theorem pins_spec (l:List Int) (a b:Nat) (hab:a < b) (hbl:b≤l.length) (hlow:Lws l a b):Spec X 206 (hp16 l) [.c (.own 16),.int a,.int b] (PinsQ l a b):=by
 refine spec_go X_ok Tryz.f206 (by kernel_rfl) (by kernel_rfl) (by kernel_rfl) fun hb hH=>⟨rfl,?_⟩
 have hmax:l.length≤maxN:=hH 16 .int l rfl
 have hmx:l.length≤140737488355328:=hmax
 have ha1:IntKind.i64.wrap ((a:Int)+1)=((a+1:Nat):Int):=wrapN (by omega) (by omega)
 have hba:IntKind.i64.wrap ((b:Int) - (a:Int))=((b - a:Nat):Int):=wrapN (by omega) (by omega)
 show ∃ n,_
 refine ⟨0,ALoop.inv (ι:={p:List Int × Nat × Nat // Srt l p.1 a b∧Sorted p.1 a p.2.1∧a < p.2.1∧p.2.1≤b}) (fun p=>⟨[(0,.c (.own 16)),(1,.int a),(2,.int b),(7,.int p.1.2.1),(8,.int p.1.2.2)],[(16,.data .int p.1.1)],64⟩) (fun p=>5 - p.1.2.2) ⟨(l,a+1,0),Srt.refl _ _ _,Sorted.one _ _,Nat.lt_succ_self a,hab⟩ ?_ ?_⟩
 ·exact ⟨[(16,16)],.cons _ _ _ (.c _ _ (.own _ _ rfl)) (.cons _ _ _ .same (.cons _ _ _ .same (.cons _ _ _ (.int_eq ha1) (.cons _ _ _ .same .nil)))),.old 16 16 _ _ _ rfl rfl (.data_eq rfl) .nil,rfl⟩
 ·rintro ⟨⟨m,i0,k⟩,hs,hso,hai0,hib0⟩
  have hml:m.length=l.length:=hs.len
  show ABr (decide ((k:Int) < 5)) _ _
  refine ⟨fun hk=>?_,fun hk=>?_⟩
  ·have hk5:k < 5:=by simp at hk;omega
   have hwk:=wrapP (i:=k) (by unfold maxN;omega)
   show ∃ n,_
   refine ⟨0,ALoop.inv (ι:={p:Nat // Sorted m a p∧a < p∧p≤b}) (fun p=>⟨[(0,.c (.own 16)),(1,.int a),(2,.int b),(7,.int p.1),(8,.int k)],[(16,.data .int m)],64⟩) (fun p=>b - p.1) ⟨i0,hso,hai0,hib0⟩ ?_ ?_⟩
   ·exact ⟨[(16,16)],.cons _ _ _ (.c _ _ (.own _ _ rfl)) (.cons _ _ _ .same (.cons _ _ _ .same (.cons _ _ _ .same (.cons _ _ _ .same .nil)))),.old 16 16 _ _ _ rfl rfl (.data_eq rfl) .nil,rfl⟩
   ·rintro ⟨i,hso,hai,hib⟩
    have hai:a < i:=hai
    have hib:i≤b:=hib
    have hw1:=wrapM (i:=i) (by omega) (by omega)
    have hwp:=wrapP (i:=i) (by omega)
    show ABr (decide ((i:Int) < (b:Int))) _ _
    refine ⟨fun hx=>?_,fun hx=>?_⟩
    ·have hlt:i < b:=by simp at hx;omega
     show AOb ((0:Int)≤(i:Int)∧(i:Int) < (m.length:Int)) _
     refine ⟨by omega,?_⟩
     show AOb (((i:Int)).toNat < m.length) _
     refine ⟨by omega,?_⟩
     show AOb ((0:Int)≤IntKind.i64.wrap ((i:Int) - 1)∧IntKind.i64.wrap ((i:Int) - 1) < (m.length:Int)) _
     refine ⟨by rw [hw1];omega,?_⟩
     show AOb ((IntKind.i64.wrap ((i:Int) - 1)).toNat < m.length) _
     refine ⟨by rw [hw1];omega,?_⟩
     show ADCall _ _ _ _ _ _
     refine .mk [] _ (Less_spec (at0 m ((i:Int)).toNat) (at0 m (IntKind.i64.wrap ((i:Int) - 1)).toNat)) rfl ?_
     have e1:(IntKind.i64.wrap ((i:Int) - 1)).toNat=i - 1:=by rw [hw1];omega
     rw [e1]
     show ABr (!decide (at0 m i < at0 m (i - 1))) _ _
     refine ⟨fun hz=>?_,fun hz=>?_⟩
     ·have hz:at0 m (i - 1)≤at0 m i:=by simp at hz;omega
      show ARound _ _ _ _
      exact ⟨⟨i+1,hso.snoc hz,by show a < i+1;omega,hlt⟩,by show b - (i+1) < b - i;omega,[(16,16)],.cons _ _ _ (.c _ _ (.own _ _ rfl)) (.cons _ _ _ .same (.cons _ _ _ .same (.cons _ _ _ (.int_eq hwp) (.cons _ _ _ .same .nil)))),.old 16 16 _ _ _ rfl rfl (.data_eq rfl) .nil,rfl⟩
     ·have hz:at0 m i < at0 m (i - 1):=by simp at hz;omega
      show ABr (decide ((i:Int)=(b:Int))) _ _
      refine ⟨fun hx=>absurd hx (by simp;omega),fun _=>?_⟩
      show ABr (decide (IntKind.i64.wrap ((b:Int) - (a:Int)) < 50)) _ _
      refine ⟨fun _=>?_,fun _=>?_⟩
      ·skip
       show ARet _ _ _
       exact ⟨[(16,16)],hp16 m,[.bo false],.cons _ _ _ _ .same .nil,.old 16 16 _ _ _ rfl rfl (.data_eq rfl) .nil,rfl,false,m,rfl,rfl,hs,fun h=>absurd h (by decide)⟩
      ·skip
       show AOb ((0:Int)≤IntKind.i64.wrap ((i:Int) - 1)∧IntKind.i64.wrap ((i:Int) - 1) < (m.length:Int)) _
       refine ⟨by rw [hw1];omega,?_⟩
       show AOb ((IntKind.i64.wrap ((i:Int) - 1)).toNat < m.length) _
       refine ⟨by rw [hw1];omega,?_⟩
       show AOb ((0:Int)≤(i:Int)∧(i:Int) < (m.length:Int)) _
       refine ⟨by omega,?_⟩
       show AOb (((i:Int)).toNat < m.length) _
       refine ⟨by omega,?_⟩
       show AOb ((0:Int)≤(i:Int)∧(i:Int) < (m.length:Int)) _
       refine ⟨by omega,?_⟩
       show AOb (((i:Int)).toNat < m.length) _
       refine ⟨by omega,?_⟩
       show AOb ((0:Int)≤IntKind.i64.wrap ((i:Int) - 1)∧IntKind.i64.wrap ((i:Int) - 1) < ((m.set ((i:Int)).toNat (at0 m (IntKind.i64.wrap ((i:Int) - 1)).toNat)).length:Int)) _
       refine ⟨by rw [List.length_set];rw [hw1];omega,?_⟩
       show AOb ((IntKind.i64.wrap ((i:Int) - 1)).toNat < (m.set ((i:Int)).toNat (at0 m (IntKind.i64.wrap ((i:Int) - 1)).toNat)).length) _
       refine ⟨by rw [List.length_set];rw [hw1];omega,?_⟩
       have es:((m.set ((i:Int)).toNat (at0 m (IntKind.i64.wrap ((i:Int) - 1)).toNat))).set (IntKind.i64.wrap ((i:Int) - 1)).toNat (at0 m ((i:Int)).toNat)=swp m i (i - 1):=by rw [hw1];rfl
       have hia:IntKind.i64.wrap ((i:Int) - (a:Int))=((i - a:Nat):Int):=wrapN (by omega) (by omega)
       have hs1:Srt l (swp m i (i - 1)) a b:=hs.trans (swp_srt m i (i - 1) a b (by omega) (by omega) (by omega) (by omega) (by omega))
       have hso1:Sorted (swp m i (i - 1)) a (i - 1):=(hso.less (by omega)).swp_out (by omega) (Nat.le_refl _) (by omega) (by omega)
       show ABr (decide (IntKind.i64.wrap ((i:Int) - (a:Int))≥2)) _ _
       refine ⟨fun hx=>?_,fun hx=>?_⟩
       ·have hi2:2≤i - a:=by rw [hia] at hx;simp at hx;omega
        show ∃ n,_
        refine ⟨0,ALoop.inv (ι:={p:List Int × Nat // Ins l p.1 a b (i - 1) p.2}) (fun p=>⟨[(0,.c (.own 16)),(1,.int a),(2,.int b),(7,.int i),(8,.int k),(9,.int p.1.2)],[(16,.data .int p.1.1)],64⟩) (fun p=>p.1.2) ⟨(swp m i (i - 1),i - 1),Ins.start hs1 hso1 (by omega)⟩ ?_ ?_⟩
        ·exact ⟨[(16,16)],.cons _ _ _ (.c _ _ (.own _ _ rfl)) (.cons _ _ _ .same (.cons _ _ _ .same (.cons _ _ _ .same (.cons _ _ _ .same (.cons _ _ _ (.int_eq hw1) .nil))))),.old 16 16 _ _ _ rfl rfl (.data_eq es) .nil,rfl⟩
        ·rintro ⟨⟨n,j⟩,hI⟩
         have hnl:n.length=l.length:=hI.srt.len
         have hja:a≤j:=hI.ja
         have hji:j≤i - 1:=hI.ji
         show ABr (decide ((j:Int)≥1)) _ _
         refine ⟨fun hx=>?_,fun hx=>?_⟩
         ·have hj1:1≤j:=by simp at hx;omega
          have hwj:=wrapM (i:=j) (by omega) (by omega)
          show AOb ((0:Int)≤(j:Int)∧(j:Int) < (n.length:Int)) _
          refine ⟨by omega,?_⟩
          show AOb (((j:Int)).toNat < n.length) _
          refine ⟨by omega,?_⟩
          show AOb ((0:Int)≤IntKind.i64.wrap ((j:Int) - 1)∧IntKind.i64.wrap ((j:Int) - 1) < (n.length:Int)) _
          refine ⟨by rw [hwj];omega,?_⟩
          show AOb ((IntKind.i64.wrap ((j:Int) - 1)).toNat < n.length) _
          refine ⟨by rw [hwj];omega,?_⟩
          show ADCall _ _ _ _ _ _
          refine .mk [] _ (Less_spec (at0 n ((j:Int)).toNat) (at0 n (IntKind.i64.wrap ((j:Int) - 1)).toNat)) rfl ?_
          have e2:(IntKind.i64.wrap ((j:Int) - 1)).toNat=j - 1:=by rw [hwj];omega
          rw [e2]
          show ABr (!decide (at0 n j < at0 n (j - 1))) _ _
          refine ⟨fun hz=>?_,fun hz=>?_⟩
          ·have hz:at0 n (j - 1)≤at0 n j:=by simp at hz;omega
           have hd:=hI.done (.inr hz)
           rw [show i - 1+1=i by omega] at hd
           have hs2:Srt l (n) a b:=hI.srt
           have hso2:Sorted (n) a i:=hd
           have hbi:IntKind.i64.wrap ((b:Int) - (i:Int))=((b - i:Nat):Int):=wrapN (by omega) (by omega)
           show ABr (decide (IntKind.i64.wrap ((b:Int) - (i:Int))≥2)) _ _
           refine ⟨fun hx=>?_,fun hx=>?_⟩
           ·skip
            show ∃ n,_
            refine ⟨0,ALoop.inv (ι:={p:List Int × Nat // Srt (n) p.1 i b∧i < p.2∧p.2≤b}) (fun p=>⟨[(0,.c (.own 16)),(1,.int a),(2,.int b),(7,.int i),(8,.int k),(10,.int p.1.2)],[(16,.data .int p.1.1)],64⟩) (fun p=>b - p.1.2) ⟨(n,i+1),Srt.refl _ _ _,Nat.lt_succ_self i,hlt⟩ ?_ ?_⟩
            ·exact ⟨[(16,16)],.cons _ _ _ (.c _ _ (.own _ _ rfl)) (.cons _ _ _ .same (.cons _ _ _ .same (.cons _ _ _ .same (.cons _ _ _ .same (.cons _ _ _ (.int_eq hwp) .nil))))),.old 16 16 _ _ _ rfl rfl (.data_eq rfl) .nil,rfl⟩
            ·rintro ⟨⟨n,j⟩,ht,hij,hjb⟩
             have hij:i < j:=hij
             have hjb:j≤b:=hjb
             have hnl:n.length=l.length:=ht.len.trans hs2.len
             have hwj:=wrapM (i:=j) (by omega) (by omega)
             have hwq:=wrapP (i:=j) (by omega)
             show ABr (decide ((j:Int) < (b:Int))) _ _
             refine ⟨fun hx=>?_,fun hx=>?_⟩
             ·have hjlt:j < b:=by simp at hx;omega
              show AOb ((0:Int)≤(j:Int)∧(j:Int) < (n.length:Int)) _
              refine ⟨by omega,?_⟩
              show AOb (((j:Int)).toNat < n.length) _
              refine ⟨by omega,?_⟩
              show AOb ((0:Int)≤IntKind.i64.wrap ((j:Int) - 1)∧IntKind.i64.wrap ((j:Int) - 1) < (n.length:Int)) _
              refine ⟨by rw [hwj];omega,?_⟩
              show AOb ((IntKind.i64.wrap ((j:Int) - 1)).toNat < n.length) _
              refine ⟨by rw [hwj];omega,?_⟩
              show ADCall _ _ _ _ _ _
              refine .mk [] _ (Less_spec (at0 n ((j:Int)).toNat) (at0 n (IntKind.i64.wrap ((j:Int) - 1)).toNat)) rfl ?_
              show ABr _ _ _
              refine ⟨fun _=>?_,fun _=>?_⟩
              ·skip
               show ARound _ _ _ _
               exact ⟨⟨(n,i,k+1),hs2.trans (ht.widen (by omega) (Nat.le_refl _)),hso2.off ht (Nat.le_refl _),hai,hib⟩,by show 5 - (k+1) < 5 - k;omega,[(16,16)],.cons _ _ _ (.c _ _ (.own _ _ rfl)) (.cons _ _ _ .same (.cons _ _ _ .same (.cons _ _ _ .same (.cons _ _ _ (.int_eq hwk) .nil)))),.old 16 16 _ _ _ rfl rfl (.data_eq rfl) .nil,rfl⟩
              ·skip
               show AOb ((0:Int)≤IntKind.i64.wrap ((j:Int) - 1)∧IntKind.i64.wrap ((j:Int) - 1) < (n.length:Int)) _
               refine ⟨by rw [hwj];omega,?_⟩
               show AOb ((IntKind.i64.wrap ((j:Int) - 1)).toNat < n.length) _
               refine ⟨by rw [hwj];omega,?_⟩
               show AOb ((0:Int)≤(j:Int)∧(j:Int) < (n.length:Int)) _
               refine ⟨by omega,?_⟩
               show AOb (((j:Int)).toNat < n.length) _
               refine ⟨by omega,?_⟩
               show AOb ((0:Int)≤(j:Int)∧(j:Int) < (n.length:Int)) _
               refine ⟨by omega,?_⟩
               show AOb (((j:Int)).toNat < n.length) _
               refine ⟨by omega,?_⟩
               show AOb ((0:Int)≤IntKind.i64.wrap ((j:Int) - 1)∧IntKind.i64.wrap ((j:Int) - 1) < ((n.set ((j:Int)).toNat (at0 n (IntKind.i64.wrap ((j:Int) - 1)).toNat)).length:Int)) _
               refine ⟨by rw [List.length_set];rw [hwj];omega,?_⟩
               show AOb ((IntKind.i64.wrap ((j:Int) - 1)).toNat < (n.set ((j:Int)).toNat (at0 n (IntKind.i64.wrap ((j:Int) - 1)).toNat)).length) _
               refine ⟨by rw [List.length_set];rw [hwj];omega,?_⟩
               have es:((n.set ((j:Int)).toNat (at0 n (IntKind.i64.wrap ((j:Int) - 1)).toNat))).set (IntKind.i64.wrap ((j:Int) - 1)).toNat (at0 n ((j:Int)).toNat)=swp n j (j - 1):=by rw [hwj];rfl
               show ARound _ _ _ _
               exact ⟨⟨(swp n j (j - 1),j+1),ht.trans (swp_srt n j (j - 1) i b (by omega) (by omega) (by omega) (by omega) (by omega)),by show i < j+1;omega,by show j+1≤b;omega⟩,by show b - (j+1) < b - j;omega,[(16,16)],.cons _ _ _ (.c _ _ (.own _ _ rfl)) (.cons _ _ _ .same (.cons _ _ _ .same (.cons _ _ _ .same (.cons _ _ _ .same (.cons _ _ _ (.int_eq hwq) .nil))))),.old 16 16 _ _ _ rfl rfl (.data_eq es) .nil,rfl⟩
             ·skip
              show ARound _ _ _ _
              exact ⟨⟨(n,i,k+1),hs2.trans (ht.widen (by omega) (Nat.le_refl _)),hso2.off ht (Nat.le_refl _),hai,hib⟩,by show 5 - (k+1) < 5 - k;omega,[(16,16)],.cons _ _ _ (.c _ _ (.own _ _ rfl)) (.cons _ _ _ .same (.cons _ _ _ .same (.cons _ _ _ .same (.cons _ _ _ (.int_eq hwk) .nil)))),.old 16 16 _ _ _ rfl rfl (.data_eq rfl) .nil,rfl⟩
           ·skip
            show ARound _ _ _ _
            exact ⟨⟨(n,i,k+1),hs2,hso2,hai,hib⟩,by show 5 - (k+1) < 5 - k;omega,[(16,16)],.cons _ _ _ (.c _ _ (.own _ _ rfl)) (.cons _ _ _ .same (.cons _ _ _ .same (.cons _ _ _ .same (.cons _ _ _ (.int_eq hwk) .nil)))),.old 16 16 _ _ _ rfl rfl (.data_eq rfl) .nil,rfl⟩
          ·have hz:at0 n j < at0 n (j - 1):=by simp at hz;omega
           have hjlt:a < j:=Nat.lt_of_le_of_ne hja fun e=>by
            have this:at0 n (a - 1)≤at0 n j:=hlow.srt hI.srt (by omega) hbl (by omega) j (by omega) (by omega)
            rw [e] at this
            omega
           show AOb ((0:Int)≤IntKind.i64.wrap ((j:Int) - 1)∧IntKind.i64.wrap ((j:Int) - 1) < (n.length:Int)) _
           refine ⟨by rw [hwj];omega,?_⟩
           show AOb ((IntKind.i64.wrap ((j:Int) - 1)).toNat < n.length) _
           refine ⟨by rw [hwj];omega,?_⟩
           show AOb ((0:Int)≤(j:Int)∧(j:Int) < (n.length:Int)) _
           refine ⟨by omega,?_⟩
           show AOb (((j:Int)).toNat < n.length) _
           refine ⟨by omega,?_⟩
           show AOb ((0:Int)≤(j:Int)∧(j:Int) < (n.length:Int)) _
           refine ⟨by omega,?_⟩
           show AOb (((j:Int)).toNat < n.length) _
           refine ⟨by omega,?_⟩
           show AOb ((0:Int)≤IntKind.i64.wrap ((j:Int) - 1)∧IntKind.i64.wrap ((j:Int) - 1) < ((n.set ((j:Int)).toNat (at0 n (IntKind.i64.wrap ((j:Int) - 1)).toNat)).length:Int)) _
           refine ⟨by rw [List.length_set];rw [hwj];omega,?_⟩
           show AOb ((IntKind.i64.wrap ((j:Int) - 1)).toNat < (n.set ((j:Int)).toNat (at0 n (IntKind.i64.wrap ((j:Int) - 1)).toNat)).length) _
           refine ⟨by rw [List.length_set];rw [hwj];omega,?_⟩
           have es:((n.set ((j:Int)).toNat (at0 n (IntKind.i64.wrap ((j:Int) - 1)).toNat))).set (IntKind.i64.wrap ((j:Int) - 1)).toNat (at0 n ((j:Int)).toNat)=swp n j (j - 1):=by rw [hwj];rfl
           show ARound _ _ _ _
           exact ⟨⟨(swp n j (j - 1),j - 1),hI.step hjlt (by omega) hbl hz⟩,by show j - 1 < j;omega,[(16,16)],.cons _ _ _ (.c _ _ (.own _ _ rfl)) (.cons _ _ _ .same (.cons _ _ _ .same (.cons _ _ _ .same (.cons _ _ _ .same (.cons _ _ _ (.int_eq hwj) .nil))))),.old 16 16 _ _ _ rfl rfl (.data_eq es) .nil,rfl⟩
         ·have hj0:j=0:=by simp at hx;omega
          have hd:=hI.done (.inl (by omega))
          rw [show i - 1+1=i by omega] at hd
          have hs2:Srt l (n) a b:=hI.srt
          have hso2:Sorted (n) a i:=hd
          have hbi:IntKind.i64.wrap ((b:Int) - (i:Int))=((b - i:Nat):Int):=wrapN (by omega) (by omega)
          show ABr (decide (IntKind.i64.wrap ((b:Int) - (i:Int))≥2)) _ _
          refine ⟨fun hx=>?_,fun hx=>?_⟩
          ·skip
           show ∃ n,_
           refine ⟨0,ALoop.inv (ι:={p:List Int × Nat // Srt (n) p.1 i b∧i < p.2∧p.2≤b}) (fun p=>⟨[(0,.c (.own 16)),(1,.int a),(2,.int b),(7,.int i),(8,.int k),(10,.int p.1.2)],[(16,.data .int p.1.1)],64⟩) (fun p=>b - p.1.2) ⟨(n,i+1),Srt.refl _ _ _,Nat.lt_succ_self i,hlt⟩ ?_ ?_⟩
           ·exact ⟨[(16,16)],.cons _ _ _ (.c _ _ (.own _ _ rfl)) (.cons _ _ _ .same (.cons _ _ _ .same (.cons _ _ _ .same (.cons _ _ _ .same (.cons _ _ _ (.int_eq hwp) .nil))))),.old 16 16 _ _ _ rfl rfl (.data_eq rfl) .nil,rfl⟩
           ·rintro ⟨⟨n,j⟩,ht,hij,hjb⟩
            have hij:i < j:=hij
            have hjb:j≤b:=hjb
            have hnl:n.length=l.length:=ht.len.trans hs2.len
            have hwj:=wrapM (i:=j) (by omega) (by omega)
            have hwq:=wrapP (i:=j) (by omega)
            show ABr (decide ((j:Int) < (b:Int))) _ _
            refine ⟨fun hx=>?_,fun hx=>?_⟩
            ·have hjlt:j < b:=by simp at hx;omega
             show AOb ((0:Int)≤(j:Int)∧(j:Int) < (n.length:Int)) _
             refine ⟨by omega,?_⟩
             show AOb (((j:Int)).toNat < n.length) _
             refine ⟨by omega,?_⟩
             show AOb ((0:Int)≤IntKind.i64.wrap ((j:Int) - 1)∧IntKind.i64.wrap ((j:Int) - 1) < (n.length:Int)) _
             refine ⟨by rw [hwj];omega,?_⟩
             show AOb ((IntKind.i64.wrap ((j:Int) - 1)).toNat < n.length) _
             refine ⟨by rw [hwj];omega,?_⟩
             show ADCall _ _ _ _ _ _
             refine .mk [] _ (Less_spec (at0 n ((j:Int)).toNat) (at0 n (IntKind.i64.wrap ((j:Int) - 1)).toNat)) rfl ?_
             show ABr _ _ _
             refine ⟨fun _=>?_,fun _=>?_⟩
             ·skip
              show ARound _ _ _ _
              exact ⟨⟨(n,i,k+1),hs2.trans (ht.widen (by omega) (Nat.le_refl _)),hso2.off ht (Nat.le_refl _),hai,hib⟩,by show 5 - (k+1) < 5 - k;omega,[(16,16)],.cons _ _ _ (.c _ _ (.own _ _ rfl)) (.cons _ _ _ .same (.cons _ _ _ .same (.cons _ _ _ .same (.cons _ _ _ (.int_eq hwk) .nil)))),.old 16 16 _ _ _ rfl rfl (.data_eq rfl) .nil,rfl⟩
             ·skip
              show AOb ((0:Int)≤IntKind.i64.wrap ((j:Int) - 1)∧IntKind.i64.wrap ((j:Int) - 1) < (n.length:Int)) _
              refine ⟨by rw [hwj];omega,?_⟩
              show AOb ((IntKind.i64.wrap ((j:Int) - 1)).toNat < n.length) _
              refine ⟨by rw [hwj];omega,?_⟩
              show AOb ((0:Int)≤(j:Int)∧(j:Int) < (n.length:Int)) _
              refine ⟨by omega,?_⟩
              show AOb (((j:Int)).toNat < n.length) _
              refine ⟨by omega,?_⟩
              show AOb ((0:Int)≤(j:Int)∧(j:Int) < (n.length:Int)) _
              refine ⟨by omega,?_⟩
              show AOb (((j:Int)).toNat < n.length) _
              refine ⟨by omega,?_⟩
              show AOb ((0:Int)≤IntKind.i64.wrap ((j:Int) - 1)∧IntKind.i64.wrap ((j:Int) - 1) < ((n.set ((j:Int)).toNat (at0 n (IntKind.i64.wrap ((j:Int) - 1)).toNat)).length:Int)) _
              refine ⟨by rw [List.length_set];rw [hwj];omega,?_⟩
              show AOb ((IntKind.i64.wrap ((j:Int) - 1)).toNat < (n.set ((j:Int)).toNat (at0 n (IntKind.i64.wrap ((j:Int) - 1)).toNat)).length) _
              refine ⟨by rw [List.length_set];rw [hwj];omega,?_⟩
              have es:((n.set ((j:Int)).toNat (at0 n (IntKind.i64.wrap ((j:Int) - 1)).toNat))).set (IntKind.i64.wrap ((j:Int) - 1)).toNat (at0 n ((j:Int)).toNat)=swp n j (j - 1):=by rw [hwj];rfl
              show ARound _ _ _ _
              exact ⟨⟨(swp n j (j - 1),j+1),ht.trans (swp_srt n j (j - 1) i b (by omega) (by omega) (by omega) (by omega) (by omega)),by show i < j+1;omega,by show j+1≤b;omega⟩,by show b - (j+1) < b - j;omega,[(16,16)],.cons _ _ _ (.c _ _ (.own _ _ rfl)) (.cons _ _ _ .same (.cons _ _ _ .same (.cons _ _ _ .same (.cons _ _ _ .same (.cons _ _ _ (.int_eq hwq) .nil))))),.old 16 16 _ _ _ rfl rfl (.data_eq es) .nil,rfl⟩
            ·skip
             show ARound _ _ _ _
             exact ⟨⟨(n,i,k+1),hs2.trans (ht.widen (by omega) (Nat.le_refl _)),hso2.off ht (Nat.le_refl _),hai,hib⟩,by show 5 - (k+1) < 5 - k;omega,[(16,16)],.cons _ _ _ (.c _ _ (.own _ _ rfl)) (.cons _ _ _ .same (.cons _ _ _ .same (.cons _ _ _ .same (.cons _ _ _ (.int_eq hwk) .nil)))),.old 16 16 _ _ _ rfl rfl (.data_eq rfl) .nil,rfl⟩
          ·skip
           show ARound _ _ _ _
           exact ⟨⟨(n,i,k+1),hs2,hso2,hai,hib⟩,by show 5 - (k+1) < 5 - k;omega,[(16,16)],.cons _ _ _ (.c _ _ (.own _ _ rfl)) (.cons _ _ _ .same (.cons _ _ _ .same (.cons _ _ _ .same (.cons _ _ _ (.int_eq hwk) .nil)))),.old 16 16 _ _ _ rfl rfl (.data_eq rfl) .nil,rfl⟩
       ·have hi1:i=a+1:=by rw [hia] at hx;simp at hx;omega
        have hs2:Srt l (swp m i (i - 1)) a b:=hs1
        have hso2:Sorted (swp m i (i - 1)) a i:=(by rw [hi1];exact Sorted.one _ _)
        have hbi:IntKind.i64.wrap ((b:Int) - (i:Int))=((b - i:Nat):Int):=wrapN (by omega) (by omega)
        show ABr (decide (IntKind.i64.wrap ((b:Int) - (i:Int))≥2)) _ _
        refine ⟨fun hx=>?_,fun hx=>?_⟩
        ·skip
         show ∃ n,_
         refine ⟨0,ALoop.inv (ι:={p:List Int × Nat // Srt (swp m i (i - 1)) p.1 i b∧i < p.2∧p.2≤b}) (fun p=>⟨[(0,.c (.own 16)),(1,.int a),(2,.int b),(7,.int i),(8,.int k),(10,.int p.1.2)],[(16,.data .int p.1.1)],64⟩) (fun p=>b - p.1.2) ⟨(swp m i (i - 1),i+1),Srt.refl _ _ _,Nat.lt_succ_self i,hlt⟩ ?_ ?_⟩
         ·exact ⟨[(16,16)],.cons _ _ _ (.c _ _ (.own _ _ rfl)) (.cons _ _ _ .same (.cons _ _ _ .same (.cons _ _ _ .same (.cons _ _ _ .same (.cons _ _ _ (.int_eq hwp) .nil))))),.old 16 16 _ _ _ rfl rfl (.data_eq es) .nil,rfl⟩
         ·rintro ⟨⟨n,j⟩,ht,hij,hjb⟩
          have hij:i < j:=hij
          have hjb:j≤b:=hjb
          have hnl:n.length=l.length:=ht.len.trans hs2.len
          have hwj:=wrapM (i:=j) (by omega) (by omega)
          have hwq:=wrapP (i:=j) (by omega)
          show ABr (decide ((j:Int) < (b:Int))) _ _
          refine ⟨fun hx=>?_,fun hx=>?_⟩
          ·have hjlt:j < b:=by simp at hx;omega
           show AOb ((0:Int)≤(j:Int)∧(j:Int) < (n.length:Int)) _
           refine ⟨by omega,?_⟩
           show AOb (((j:Int)).toNat < n.length) _
           refine ⟨by omega,?_⟩
           show AOb ((0:Int)≤IntKind.i64.wrap ((j:Int) - 1)∧IntKind.i64.wrap ((j:Int) - 1) < (n.length:Int)) _
           refine ⟨by rw [hwj];omega,?_⟩
           show AOb ((IntKind.i64.wrap ((j:Int) - 1)).toNat < n.length) _
           refine ⟨by rw [hwj];omega,?_⟩
           show ADCall _ _ _ _ _ _
           refine .mk [] _ (Less_spec (at0 n ((j:Int)).toNat) (at0 n (IntKind.i64.wrap ((j:Int) - 1)).toNat)) rfl ?_
           show ABr _ _ _
           refine ⟨fun _=>?_,fun _=>?_⟩
           ·skip
            show ARound _ _ _ _
            exact ⟨⟨(n,i,k+1),hs2.trans (ht.widen (by omega) (Nat.le_refl _)),hso2.off ht (Nat.le_refl _),hai,hib⟩,by show 5 - (k+1) < 5 - k;omega,[(16,16)],.cons _ _ _ (.c _ _ (.own _ _ rfl)) (.cons _ _ _ .same (.cons _ _ _ .same (.cons _ _ _ .same (.cons _ _ _ (.int_eq hwk) .nil)))),.old 16 16 _ _ _ rfl rfl (.data_eq rfl) .nil,rfl⟩
           ·skip
            show AOb ((0:Int)≤IntKind.i64.wrap ((j:Int) - 1)∧IntKind.i64.wrap ((j:Int) - 1) < (n.length:Int)) _
            refine ⟨by rw [hwj];omega,?_⟩
            show AOb ((IntKind.i64.wrap ((j:Int) - 1)).toNat < n.length) _
            refine ⟨by rw [hwj];omega,?_⟩
            show AOb ((0:Int)≤(j:Int)∧(j:Int) < (n.length:Int)) _
            refine ⟨by omega,?_⟩
            show AOb (((j:Int)).toNat < n.length) _
            refine ⟨by omega,?_⟩
            show AOb ((0:Int)≤(j:Int)∧(j:Int) < (n.length:Int)) _
            refine ⟨by omega,?_⟩
            show AOb (((j:Int)).toNat < n.length) _
            refine ⟨by omega,?_⟩
            show AOb ((0:Int)≤IntKind.i64.wrap ((j:Int) - 1)∧IntKind.i64.wrap ((j:Int) - 1) < ((n.set ((j:Int)).toNat (at0 n (IntKind.i64.wrap ((j:Int) - 1)).toNat)).length:Int)) _
            refine ⟨by rw [List.length_set];rw [hwj];omega,?_⟩
            show AOb ((IntKind.i64.wrap ((j:Int) - 1)).toNat < (n.set ((j:Int)).toNat (at0 n (IntKind.i64.wrap ((j:Int) - 1)).toNat)).length) _
            refine ⟨by rw [List.length_set];rw [hwj];omega,?_⟩
            have es:((n.set ((j:Int)).toNat (at0 n (IntKind.i64.wrap ((j:Int) - 1)).toNat))).set (IntKind.i64.wrap ((j:Int) - 1)).toNat (at0 n ((j:Int)).toNat)=swp n j (j - 1):=by rw [hwj];rfl
            show ARound _ _ _ _
            exact ⟨⟨(swp n j (j - 1),j+1),ht.trans (swp_srt n j (j - 1) i b (by omega) (by omega) (by omega) (by omega) (by omega)),by show i < j+1;omega,by show j+1≤b;omega⟩,by show b - (j+1) < b - j;omega,[(16,16)],.cons _ _ _ (.c _ _ (.own _ _ rfl)) (.cons _ _ _ .same (.cons _ _ _ .same (.cons _ _ _ .same (.cons _ _ _ .same (.cons _ _ _ (.int_eq hwq) .nil))))),.old 16 16 _ _ _ rfl rfl (.data_eq es) .nil,rfl⟩
          ·skip
           show ARound _ _ _ _
           exact ⟨⟨(n,i,k+1),hs2.trans (ht.widen (by omega) (Nat.le_refl _)),hso2.off ht (Nat.le_refl _),hai,hib⟩,by show 5 - (k+1) < 5 - k;omega,[(16,16)],.cons _ _ _ (.c _ _ (.own _ _ rfl)) (.cons _ _ _ .same (.cons _ _ _ .same (.cons _ _ _ .same (.cons _ _ _ (.int_eq hwk) .nil)))),.old 16 16 _ _ _ rfl rfl (.data_eq rfl) .nil,rfl⟩
        ·skip
         show ARound _ _ _ _
         exact ⟨⟨(swp m i (i - 1),i,k+1),hs2,hso2,hai,hib⟩,by show 5 - (k+1) < 5 - k;omega,[(16,16)],.cons _ _ _ (.c _ _ (.own _ _ rfl)) (.cons _ _ _ .same (.cons _ _ _ .same (.cons _ _ _ .same (.cons _ _ _ (.int_eq hwk) .nil)))),.old 16 16 _ _ _ rfl rfl (.data_eq es) .nil,rfl⟩
    ·have hib:i=b:=by simp at hx;omega
     show ABr _ _ _
     refine ⟨fun hx=>absurd hx (by decide),fun _=>?_⟩
     show ABr (decide ((i:Int)=(b:Int))) _ _
     refine ⟨fun _=>?_,fun hx=>absurd hx (by simp;omega)⟩
     show ARet _ _ _
     exact ⟨[(16,16)],hp16 m,[.bo true],.cons _ _ _ _ .same .nil,.old 16 16 _ _ _ rfl rfl (.data_eq rfl) .nil,rfl,true,m,rfl,rfl,hs,fun _=>hib ▸ hso⟩
  ·skip
   show ARet _ _ _
   exact ⟨[(16,16)],hp16 m,[.bo false],.cons _ _ _ _ .same .nil,.old 16 16 _ _ _ rfl rfl (.data_eq rfl) .nil,rfl,false,m,rfl,rfl,hs,fun h=>absurd h (by decide)⟩
end Go.Abs
namespace Go.Abs
open Go.Proofs Go.Proofs.YtejnngjfjaeiiaaGreatDoor
set_option maxRecDepth 8000
theorem aux_bounds : ∀ f x, x < 2 ^ f → x < 2 ^ Lib.bitLenAux f x ∧ (0 < x → 2 ^ Lib.bitLenAux f x ≤ 2 * x)
  | 0, x, h => by
    have : x = 0 := by simpa using h
    subst this
    exact ⟨Nat.pow_pos (by decide), fun h => absurd h (Nat.lt_irrefl 0)⟩
  | f + 1, x, h => by
    unfold Lib.bitLenAux
    by_cases h0 : x = 0
    · subst h0; exact ⟨by simp, fun h => absurd h (by simp)⟩
    · rw [if_neg h0]
      have h1 : x / 2 < 2 ^ f := by rw [Nat.pow_succ] at h; omega
      obtain ⟨a1, a2⟩ := aux_bounds f (x / 2) h1
      rw [Nat.pow_add, Nat.pow_one]
      refine ⟨by omega, fun _ => ?_⟩
      by_cases h2 : 0 < x / 2
      · have := a2 h2; omega
      · have : x = 1 := by omega
        subst this
        have : Lib.bitLenAux f (1 / 2) = 0 := by cases f <;> rfl
        rw [this]
        decide
theorem bitLen_bounds {x:Nat} (h0:0 < x) (h:x < 2 ^ 48):x < 2 ^ Lib.bitLen x∧2 ^ Lib.bitLen x≤2 * x∧Lib.bitLen x≤49:=by
 have h64:x < 2 ^ 64:=Nat.lt_of_lt_of_le h (by decide)
 obtain ⟨a1,a2⟩:=aux_bounds 64 x h64
 have a2:=a2 h0
 refine ⟨a1,a2,?_⟩
 refine Classical.byContradiction fun hn=>?_
 have h1:2 ^ 50≤2 ^ Lib.bitLen x:=Nat.pow_le_pow_right (by decide) (by omega)
 have:2 ^ Lib.bitLen x≤2 * x:=a2
 have h3:(2:Nat) ^ 50=4 * 2 ^ 48:=by decide
 omega
theorem Len_exact (x:Int) (h0:0≤x) (h1:x≤18446744073709551615):Spec X 161 [] [.lit (.int .u64 x)] (Ret [] (.int (Lib.bitLen x.toNat))):=by
 refine spec_still (vs:=[.int .u64 x]) ⟨Tryz.f161,by kernel_rfl,by kernel_rfl,by kernel_rfl⟩ (fun N S w us ha=>?_) fun w=>(bits_Len x w h0 h1).mono ?_
 ·match us,ha with
  | [u],ha=>rw [rep_lit (ha.2 0 _ u rfl rfl)]
  | [],ha=>exact absurd ha.1 (by simp)
  | _ :: _ :: _,ha=>exact absurd ha.1 (by simp)
 ·rintro e w' ⟨rfl,rfl⟩
  exact ⟨_,rfl,rfl,rfl,rfl,rfl⟩
theorem u64N {n:Nat} (h:n < 18446744073709551616):IntKind.u64.wrap (n:Int)=(n:Int):=by
 unfold IntKind.wrap
 simp [IntKind.bits,IntKind.signed]
 omega
theorem nextPow_spec (n:Nat) (h0:0 < n) (h:n < 2 ^ 48):Spec X 240 [] [.int n] (Ret [] (.lit (.int .u64 ((2 ^ Lib.bitLen n:Nat):Int)))):=by
 refine spec_go X_ok Tryz.f240 (by kernel_rfl) (by kernel_rfl) (by kernel_rfl) fun hbd hH=>⟨rfl,?_⟩
 have hw:IntKind.u64.wrap (n:Int)=(n:Int):=u64N (by omega)
 obtain ⟨b1,b2,b3⟩:=bitLen_bounds h0 h
 show ACall _ _ _ _ _ _
 refine call_ret (Len_exact (IntKind.u64.wrap (n:Int)) (by rw [hw];omega) (by rw [hw];omega)) rfl ?_
 rw [hw,Int.toNat_natCast]
 show AOb ((0:Int)≤(Lib.bitLen n:Int)) _
 refine ⟨by omega,?_⟩
 show ARet _ _ _
 have e:IntKind.u64.wrap ((1:Int) * 2 ^ (min ((Lib.bitLen n:Int)).toNat 64))=((2 ^ Lib.bitLen n:Nat):Int):=by
  rw [Int.toNat_natCast,Nat.min_eq_left (by omega),Int.one_mul]
  have:(2:Int) ^ Lib.bitLen n=((2 ^ Lib.bitLen n:Nat):Int):=by simp
  rw [this,u64N]
  have:2 ^ Lib.bitLen n≤2 ^ 49:=Nat.pow_le_pow_right (by decide) b3
  omega
 refine ⟨[],[],[.lit (.int .u64 ((2 ^ Lib.bitLen n:Nat):Int))],.cons _ _ _ _ ?_ .nil,.nil,rfl,rfl,rfl⟩
 show LeT _ _ _ (.c (.d (.lit (.int .u64 (IntKind.u64.wrap ((1:Int) * 2 ^ (min ((Lib.bitLen n:Int)).toNat 64))))))) _
 rw [e]
 exact .same
theorem Next_spec (v:Int):Spec X 241 [(16,.vars [.d (.lit (.int .u64 v))])] [.c (.ptr 16 0 0)] (fun H r=>∃ v' r' : Int,H=[(16,.vars [.d (.lit (.int .u64 v'))])]∧r = .lit (.int .u64 r')):=by
 refine spec_go X_ok Tryz.f241 (by kernel_rfl) (by kernel_rfl) (by kernel_rfl) fun hbd hH=>⟨rfl,?_⟩
 show AOb _ _
 refine ⟨by decide,?_⟩
 show AOb _ _
 refine ⟨by decide,?_⟩
 show AOb _ _
 refine ⟨by decide,?_⟩
 show ARet _ _ _
 exact ⟨[(16,16)],[(16,.vars [.d (.lit (.int .u64 _))])],[.lit (.int .u64 _)],.cons _ _ _ _ .same .nil,.old 16 16 _ _ _ rfl rfl (.vars _ _ (.cons _ _ _ _ (.d _) .nil)) .nil,rfl,_,_,rfl,rfl⟩
theorem masked (r:Int) {m:Nat} (hm:m≤49):∃ k:Nat,k < 2 ^ m∧IntKind.i64.wrap (IntKind.u64.wrap ((BitVec.ofInt 64 r &&& BitVec.ofInt 64 (IntKind.u64.wrap (((2 ^ m:Nat):Int) - 1))).toNat:Int))=(k:Int):=by
 have hp:0 < 2 ^ m:=Nat.pow_pos (by decide)
 have hp2:2 ^ m≤2 ^ 49:=Nat.pow_le_pow_right (by decide) hm
 have e1:IntKind.u64.wrap (((2 ^ m:Nat):Int) - 1)=((2 ^ m - 1:Nat):Int):=by
  have:(((2 ^ m:Nat):Int) - 1)=((2 ^ m - 1:Nat):Int):=by omega
  rw [this,u64N (by omega)]
 rw [e1,BitVec.toNat_and]
 have e2:(BitVec.ofInt 64 ((2 ^ m - 1:Nat):Int)).toNat=2 ^ m - 1:=by
  rw [BitVec.ofInt_natCast,BitVec.toNat_ofNat,Nat.mod_eq_of_lt (by omega)]
 rw [e2]
 have hle:(BitVec.ofInt 64 r).toNat &&& (2 ^ m - 1)≤2 ^ m - 1:=Nat.and_le_right
 refine ⟨(BitVec.ofInt 64 r).toNat &&& (2 ^ m - 1),by omega,?_⟩
 rw [u64N (by omega),wrapN rfl (by omega)]
set_option maxHeartbeats 1000000 in
theorem break_spec (l:List Int) (a b:Nat) (h12:a+12 < b) (hb:b≤l.length):Spec X 203 (hp16 l) [.c (.own 16),.int a,.int b] (fun H r=>r = .tup []∧∃ l',H=hp16 l'∧Srt l l' a b):=by
 refine spec_go X_ok Tryz.f203 (by kernel_rfl) (by kernel_rfl) (by kernel_rfl) fun hbd hH=>⟨rfl,?_⟩
 have hmax:l.length≤maxN:=hH 16 .int l rfl
 have hmx:l.length≤140737488355328:=hmax
 have hL:IntKind.i64.wrap ((b:Int) - (a:Int))=((b - a:Nat):Int):=wrapN (by omega) (by omega)
 have hD:((IntKind.i64.wrap ((b:Int) - (a:Int))).tdiv 4)=(((b - a) / 4:Nat):Int):=by rw [hL];exact tdivN _ 4
 have hQ:IntKind.i64.wrap ((IntKind.i64.wrap ((b:Int) - (a:Int))).tdiv 4)=(((b - a) / 4:Nat):Int):=wrapN hD (by omega)
 have hM:IntKind.i64.wrap (IntKind.i64.wrap ((IntKind.i64.wrap ((b:Int) - (a:Int))).tdiv 4) * 2)=(((b - a) / 4 * 2:Nat):Int):=wrapN (by rw [hQ];omega) (by omega)
 have hA:IntKind.i64.wrap ((a:Int)+IntKind.i64.wrap (IntKind.i64.wrap ((IntKind.i64.wrap ((b:Int) - (a:Int))).tdiv 4) * 2))=((a+(b - a) / 4 * 2:Nat):Int):=wrapN (by rw [hM];omega) (by omega)
 have hB:IntKind.i64.wrap (IntKind.i64.wrap ((a:Int)+IntKind.i64.wrap (IntKind.i64.wrap ((IntKind.i64.wrap ((b:Int) - (a:Int))).tdiv 4) * 2)) - 1)=((a+(b - a) / 4 * 2 - 1:Nat):Int):=wrapN (by rw [hA];omega) (by omega)
 obtain ⟨b1,b2,b3⟩:=bitLen_bounds (x:=b - a) (by omega) (by omega)
 show ABr (decide (IntKind.i64.wrap ((b:Int) - (a:Int))≥8)) _ _
 refine ⟨fun _=>?_,fun h=>absurd h (by rw [hL];simp;omega)⟩
 show ACall X _ [.int (IntKind.i64.wrap ((b:Int) - (a:Int)))] _ _ _
 rw [hL]
 refine call_ret (nextPow_spec (b - a) (by omega) (by omega)) rfl ?_
 show AOb ((4:Int)≠0) _
 refine ⟨by decide,?_⟩
 have hD' : (((b - a:Nat):Int).tdiv 4)=(((b - a) / 4:Nat):Int):=tdivN _ 4
 have hQ' : IntKind.i64.wrap (((b - a:Nat):Int).tdiv 4)=(((b - a) / 4:Nat):Int):=wrapN hD' (by omega)
 have hM' : IntKind.i64.wrap (IntKind.i64.wrap (((b - a:Nat):Int).tdiv 4) * 2)=(((b - a) / 4 * 2:Nat):Int):=wrapN (by rw [hQ'];omega) (by omega)
 have hA' : IntKind.i64.wrap ((a:Int)+IntKind.i64.wrap (IntKind.i64.wrap (((b - a:Nat):Int).tdiv 4) * 2))=((a+(b - a) / 4 * 2:Nat):Int):=wrapN (by rw [hM'];omega) (by omega)
 have hB' : IntKind.i64.wrap (IntKind.i64.wrap ((a:Int)+IntKind.i64.wrap (IntKind.i64.wrap (((b - a:Nat):Int).tdiv 4) * 2))+1)=((a+(b - a) / 4 * 2+1:Nat):Int):=wrapN (by rw [hA'];omega) (by omega)
 have hB2:IntKind.i64.wrap (IntKind.i64.wrap ((a:Int)+IntKind.i64.wrap (IntKind.i64.wrap (((b - a:Nat):Int).tdiv 4) * 2)) - 1)=((a+(b - a) / 4 * 2 - 1:Nat):Int):=wrapN (by rw [hA'];omega) (by omega)
 show ∃ n,_
 refine ⟨0,ALoop.inv (ι:={p:List Int × Nat × Int // Srt l p.1 a b∧a≤p.2.1∧p.2.1≤a+(b - a) / 4 * 2+2}) (fun p=>⟨[(0,.c (.own 16)),(1,.int a),(6,.int (b - a:Nat)),(7,.c (.ptr 0 0 0)),(8,.lit (.int .u64 ((2 ^ Lib.bitLen (b - a):Nat):Int))),(9,.int p.1.2.1)],[(16,.data .int p.1.1),(0,.vars [.d (.lit (.int .u64 p.1.2.2))])],64⟩) (fun p=>a+(b - a) / 4 * 2+2 - p.1.2.1) ⟨(l,a+(b - a) / 4 * 2 - 1,IntKind.u64.wrap ((b - a:Nat):Int)),Srt.refl _ _ _,by show a≤a+(b - a) / 4 * 2 - 1;omega,by show a+(b - a) / 4 * 2 - 1≤_;omega⟩ ?_ ?_⟩
 ·exact ⟨[(16,16),(288,0)],.cons _ _ _ (.c _ _ (.own _ _ rfl)) (.cons _ _ _ .same (.cons _ _ _ .same (.cons _ _ _ (.c _ _ (.ptr _ _ _ _ rfl)) (.cons _ _ _ .same (.cons _ _ _ (.int_eq hB2) .nil))))),.old 16 16 _ _ _ rfl rfl (.data_eq rfl) (.old 0 288 _ _ _ rfl rfl (.vars _ _ (LeL_refl rfl)) .nil),rfl⟩
 ·rintro ⟨⟨m,i,v⟩,hs,hai,hib⟩
  have hml:m.length=l.length:=hs.len
  have hai:a≤i:=hai
  have hib:i≤a+(b - a) / 4 * 2+2:=hib
  show AOb ((4:Int)≠0) _
  refine ⟨by decide,?_⟩
  show ABr (decide ((i:Int)≤IntKind.i64.wrap (IntKind.i64.wrap ((a:Int)+IntKind.i64.wrap (IntKind.i64.wrap (((b - a:Nat):Int).tdiv 4) * 2))+1))) _ _
  refine ⟨fun h2=>?_,fun h2=>?_⟩
  ·have hi2:i≤a+(b - a) / 4 * 2+1:=by rw [hB'] at h2;simp at h2;omega
   show ACall _ _ _ _ _ _
   refine .hand [(0,16)] [(16,.vars [.d (.lit (.int .u64 v))])] [.c (.ptr 16 0 0)] _ (.cons _ _ _ _ (.c _ _ (.ptr _ _ _ _ rfl)) .nil) (.old 16 0 _ _ _ rfl rfl (.vars _ _ (LeL_refl rfl)) .nil) rfl (Next_spec v) ?_
   rintro H q ⟨v',r,rfl,rfl⟩ _ _
   refine ⟨rfl,.inr ⟨rfl,rfl⟩,?_⟩
   obtain ⟨k,hk1,hk2⟩:=masked r (m:=Lib.bitLen (b - a)) b3
   have hk3:k < 2 * (b - a):=by omega
   show ABr (decide (IntKind.i64.wrap (IntKind.u64.wrap ((BitVec.ofInt 64 r &&& BitVec.ofInt 64 (IntKind.u64.wrap (((2 ^ Lib.bitLen (b - a):Nat):Int) - 1))).toNat:Int))≥((b - a:Nat):Int))) _ _
   refine ⟨fun h3=>?_,fun h3=>?_⟩
   ·have hge:b - a≤k:=by rw [hk2] at h3;simp at h3;omega
    have hx:IntKind.i64.wrap (IntKind.i64.wrap (IntKind.u64.wrap ((BitVec.ofInt 64 r &&& BitVec.ofInt 64 (IntKind.u64.wrap (((2 ^ Lib.bitLen (b - a):Nat):Int) - 1))).toNat:Int)) - ((b - a:Nat):Int))=((k - (b - a):Nat):Int):=wrapN (by rw [hk2];omega) (by omega)
    have he:IntKind.i64.wrap ((a:Int)+IntKind.i64.wrap (IntKind.i64.wrap (IntKind.u64.wrap ((BitVec.ofInt 64 r &&& BitVec.ofInt 64 (IntKind.u64.wrap (((2 ^ Lib.bitLen (b - a):Nat):Int) - 1))).toNat:Int)) - ((b - a:Nat):Int)))=((a+(k - (b - a)):Nat):Int):=wrapN (by rw [hx];omega) (by omega)
    have hn:(IntKind.i64.wrap ((a:Int)+IntKind.i64.wrap (IntKind.i64.wrap (IntKind.u64.wrap ((BitVec.ofInt 64 r &&& BitVec.ofInt 64 (IntKind.u64.wrap (((2 ^ Lib.bitLen (b - a):Nat):Int) - 1))).toNat:Int)) - ((b - a:Nat):Int)))).toNat=a+(k - (b - a)):=by rw [he];omega
    show AOb ((0:Int)≤IntKind.i64.wrap ((a:Int)+IntKind.i64.wrap (IntKind.i64.wrap (IntKind.u64.wrap ((BitVec.ofInt 64 r &&& BitVec.ofInt 64 (IntKind.u64.wrap (((2 ^ Lib.bitLen (b - a):Nat):Int) - 1))).toNat:Int)) - ((b - a:Nat):Int)))∧IntKind.i64.wrap ((a:Int)+IntKind.i64.wrap (IntKind.i64.wrap (IntKind.u64.wrap ((BitVec.ofInt 64 r &&& BitVec.ofInt 64 (IntKind.u64.wrap (((2 ^ Lib.bitLen (b - a):Nat):Int) - 1))).toNat:Int)) - ((b - a:Nat):Int))) < (m.length:Int)) _
    refine ⟨by rw [he];omega,?_⟩
    show AOb ((IntKind.i64.wrap ((a:Int)+IntKind.i64.wrap (IntKind.i64.wrap (IntKind.u64.wrap ((BitVec.ofInt 64 r &&& BitVec.ofInt 64 (IntKind.u64.wrap (((2 ^ Lib.bitLen (b - a):Nat):Int) - 1))).toNat:Int)) - ((b - a:Nat):Int)))).toNat < m.length) _
    refine ⟨by rw [hn];omega,?_⟩
    show AOb ((0:Int)≤(i:Int)∧(i:Int) < (m.length:Int)) _
    refine ⟨by omega,?_⟩
    show AOb ((i:Int).toNat < m.length) _
    refine ⟨by omega,?_⟩
    show AOb ((0:Int)≤(i:Int)∧(i:Int) < (m.length:Int)) _
    refine ⟨by omega,?_⟩
    show AOb ((i:Int).toNat < m.length) _
    refine ⟨by omega,?_⟩
    show AOb ((0:Int)≤IntKind.i64.wrap ((a:Int)+IntKind.i64.wrap (IntKind.i64.wrap (IntKind.u64.wrap ((BitVec.ofInt 64 r &&& BitVec.ofInt 64 (IntKind.u64.wrap (((2 ^ Lib.bitLen (b - a):Nat):Int) - 1))).toNat:Int)) - ((b - a:Nat):Int)))∧IntKind.i64.wrap ((a:Int)+IntKind.i64.wrap (IntKind.i64.wrap (IntKind.u64.wrap ((BitVec.ofInt 64 r &&& BitVec.ofInt 64 (IntKind.u64.wrap (((2 ^ Lib.bitLen (b - a):Nat):Int) - 1))).toNat:Int)) - ((b - a:Nat):Int))) < ((m.set (i:Int).toNat (at0 m (IntKind.i64.wrap ((a:Int)+IntKind.i64.wrap (IntKind.i64.wrap (IntKind.u64.wrap ((BitVec.ofInt 64 r &&& BitVec.ofInt 64 (IntKind.u64.wrap (((2 ^ Lib.bitLen (b - a):Nat):Int) - 1))).toNat:Int)) - ((b - a:Nat):Int)))).toNat)).length:Int)) _
    refine ⟨by rw [List.length_set,he];omega,?_⟩
    show AOb ((IntKind.i64.wrap ((a:Int)+IntKind.i64.wrap (IntKind.i64.wrap (IntKind.u64.wrap ((BitVec.ofInt 64 r &&& BitVec.ofInt 64 (IntKind.u64.wrap (((2 ^ Lib.bitLen (b - a):Nat):Int) - 1))).toNat:Int)) - ((b - a:Nat):Int)))).toNat < (m.set (i:Int).toNat (at0 m (IntKind.i64.wrap ((a:Int)+IntKind.i64.wrap (IntKind.i64.wrap (IntKind.u64.wrap ((BitVec.ofInt 64 r &&& BitVec.ofInt 64 (IntKind.u64.wrap (((2 ^ Lib.bitLen (b - a):Nat):Int) - 1))).toNat:Int)) - ((b - a:Nat):Int)))).toNat)).length) _
    refine ⟨by rw [List.length_set,hn];omega,?_⟩
    show ARound _ _ _ _
    refine ⟨⟨(swp m i (a+(k - (b - a))),i+1,v'),hs.trans (swp_srt m i (a+(k - (b - a))) a b hai (by omega) (by omega) (by omega) (by omega)),by show a≤i+1;omega,by show i+1≤_;omega⟩,by show a+(b - a) / 4 * 2+2 - (i+1) < a+(b - a) / 4 * 2+2 - i;omega,[(16,16),(0,0)],.cons _ _ _ (.c _ _ (.own _ _ rfl)) (.cons _ _ _ .same (.cons _ _ _ .same (.cons _ _ _ (.c _ _ (.ptr _ _ _ _ rfl)) (.cons _ _ _ .same (.cons _ _ _ (.int_eq (wrapP (i:=i) (by omega))) .nil))))),.old 16 16 _ _ _ rfl rfl (.data_eq ?_) (.old 0 0 _ _ _ rfl rfl (.vars _ _ (LeL_refl rfl)) .nil),rfl⟩
    show (m.set (i:Int).toNat (at0 m (IntKind.i64.wrap ((a:Int)+IntKind.i64.wrap (IntKind.i64.wrap (IntKind.u64.wrap ((BitVec.ofInt 64 r &&& BitVec.ofInt 64 (IntKind.u64.wrap (((2 ^ Lib.bitLen (b - a):Nat):Int) - 1))).toNat:Int)) - ((b - a:Nat):Int)))).toNat)).set (IntKind.i64.wrap ((a:Int)+IntKind.i64.wrap (IntKind.i64.wrap (IntKind.u64.wrap ((BitVec.ofInt 64 r &&& BitVec.ofInt 64 (IntKind.u64.wrap (((2 ^ Lib.bitLen (b - a):Nat):Int) - 1))).toNat:Int)) - ((b - a:Nat):Int)))).toNat (at0 m (i:Int).toNat)=swp m i (a+(k - (b - a)))
    rw [hn]
    rfl
   ·have hlt:k < b - a:=by rw [hk2] at h3;simp at h3;omega
    have hx:=hk2
    have he:IntKind.i64.wrap ((a:Int)+IntKind.i64.wrap (IntKind.u64.wrap ((BitVec.ofInt 64 r &&& BitVec.ofInt 64 (IntKind.u64.wrap (((2 ^ Lib.bitLen (b - a):Nat):Int) - 1))).toNat:Int)))=((a+k:Nat):Int):=wrapN (by rw [hx];omega) (by omega)
    have hn:(IntKind.i64.wrap ((a:Int)+IntKind.i64.wrap (IntKind.u64.wrap ((BitVec.ofInt 64 r &&& BitVec.ofInt 64 (IntKind.u64.wrap (((2 ^ Lib.bitLen (b - a):Nat):Int) - 1))).toNat:Int)))).toNat=a+k:=by rw [he];omega
    show AOb ((0:Int)≤IntKind.i64.wrap ((a:Int)+IntKind.i64.wrap (IntKind.u64.wrap ((BitVec.ofInt 64 r &&& BitVec.ofInt 64 (IntKind.u64.wrap (((2 ^ Lib.bitLen (b - a):Nat):Int) - 1))).toNat:Int)))∧IntKind.i64.wrap ((a:Int)+IntKind.i64.wrap (IntKind.u64.wrap ((BitVec.ofInt 64 r &&& BitVec.ofInt 64 (IntKind.u64.wrap (((2 ^ Lib.bitLen (b - a):Nat):Int) - 1))).toNat:Int))) < (m.length:Int)) _
    refine ⟨by rw [he];omega,?_⟩
    show AOb ((IntKind.i64.wrap ((a:Int)+IntKind.i64.wrap (IntKind.u64.wrap ((BitVec.ofInt 64 r &&& BitVec.ofInt 64 (IntKind.u64.wrap (((2 ^ Lib.bitLen (b - a):Nat):Int) - 1))).toNat:Int)))).toNat < m.length) _
    refine ⟨by rw [hn];omega,?_⟩
    show AOb ((0:Int)≤(i:Int)∧(i:Int) < (m.length:Int)) _
    refine ⟨by omega,?_⟩
    show AOb ((i:Int).toNat < m.length) _
    refine ⟨by omega,?_⟩
    show AOb ((0:Int)≤(i:Int)∧(i:Int) < (m.length:Int)) _
    refine ⟨by omega,?_⟩
    show AOb ((i:Int).toNat < m.length) _
    refine ⟨by omega,?_⟩
    show AOb ((0:Int)≤IntKind.i64.wrap ((a:Int)+IntKind.i64.wrap (IntKind.u64.wrap ((BitVec.ofInt 64 r &&& BitVec.ofInt 64 (IntKind.u64.wrap (((2 ^ Lib.bitLen (b - a):Nat):Int) - 1))).toNat:Int)))∧IntKind.i64.wrap ((a:Int)+IntKind.i64.wrap (IntKind.u64.wrap ((BitVec.ofInt 64 r &&& BitVec.ofInt 64 (IntKind.u64.wrap (((2 ^ Lib.bitLen (b - a):Nat):Int) - 1))).toNat:Int))) < ((m.set (i:Int).toNat (at0 m (IntKind.i64.wrap ((a:Int)+IntKind.i64.wrap (IntKind.u64.wrap ((BitVec.ofInt 64 r &&& BitVec.ofInt 64 (IntKind.u64.wrap (((2 ^ Lib.bitLen (b - a):Nat):Int) - 1))).toNat:Int)))).toNat)).length:Int)) _
    refine ⟨by rw [List.length_set,he];omega,?_⟩
    show AOb ((IntKind.i64.wrap ((a:Int)+IntKind.i64.wrap (IntKind.u64.wrap ((BitVec.ofInt 64 r &&& BitVec.ofInt 64 (IntKind.u64.wrap (((2 ^ Lib.bitLen (b - a):Nat):Int) - 1))).toNat:Int)))).toNat < (m.set (i:Int).toNat (at0 m (IntKind.i64.wrap ((a:Int)+IntKind.i64.wrap (IntKind.u64.wrap ((BitVec.ofInt 64 r &&& BitVec.ofInt 64 (IntKind.u64.wrap (((2 ^ Lib.bitLen (b - a):Nat):Int) - 1))).toNat:Int)))).toNat)).length) _
    refine ⟨by rw [List.length_set,hn];omega,?_⟩
    show ARound _ _ _ _
    refine ⟨⟨(swp m i (a+k),i+1,v'),hs.trans (swp_srt m i (a+k) a b hai (by omega) (by omega) (by omega) (by omega)),by show a≤i+1;omega,by show i+1≤_;omega⟩,by show a+(b - a) / 4 * 2+2 - (i+1) < a+(b - a) / 4 * 2+2 - i;omega,[(16,16),(0,0)],.cons _ _ _ (.c _ _ (.own _ _ rfl)) (.cons _ _ _ .same (.cons _ _ _ .same (.cons _ _ _ (.c _ _ (.ptr _ _ _ _ rfl)) (.cons _ _ _ .same (.cons _ _ _ (.int_eq (wrapP (i:=i) (by omega))) .nil))))),.old 16 16 _ _ _ rfl rfl (.data_eq ?_) (.old 0 0 _ _ _ rfl rfl (.vars _ _ (LeL_refl rfl)) .nil),rfl⟩
    show (m.set (i:Int).toNat (at0 m (IntKind.i64.wrap ((a:Int)+IntKind.i64.wrap (IntKind.u64.wrap ((BitVec.ofInt 64 r &&& BitVec.ofInt 64 (IntKind.u64.wrap (((2 ^ Lib.bitLen (b - a):Nat):Int) - 1))).toNat:Int)))).toNat)).set (IntKind.i64.wrap ((a:Int)+IntKind.i64.wrap (IntKind.u64.wrap ((BitVec.ofInt 64 r &&& BitVec.ofInt 64 (IntKind.u64.wrap (((2 ^ Lib.bitLen (b - a):Nat):Int) - 1))).toNat:Int)))).toNat (at0 m (i:Int).toNat)=swp m i (a+k)
    rw [hn]
    rfl
  ·show ARet _ _ _
   exact ⟨[(16,16)],hp16 m,[],.nil,.old 16 16 _ _ _ rfl rfl (.data_eq rfl) .nil,rfl,rfl,m,rfl,hs⟩
end Go.Abs
namespace Go.Abs
open Go.Proofs Go.Proofs.YtejnngjfjaeiiaaGreatDoor
set_option maxRecDepth 8000
set_option maxHeartbeats 2000000 in
theorem sift_spec (l:List Int) (lo hi f:Nat) (hl:f+hi≤l.length) (hh:HeapAt l f (lo+1) hi) (hlo:lo≤hi):Spec X 239 (hp16 l) [.c (.own 16),.int lo,.int hi,.int f] (fun H r=>r = .tup []∧∃ l',H=hp16 l'∧Srt l l' f (f+hi)∧HeapAt l' f lo hi):=by
 refine spec_go X_ok Tryz.f239 (by kernel_rfl) (by kernel_rfl) (by kernel_rfl) fun hbd hH=>⟨rfl,?_⟩
 have hmax:l.length≤maxN:=hH 16 .int l rfl
 have hmx:l.length≤140737488355328:=hmax
 show ∃ n,_
 refine ⟨0,ALoop.inv (ι:={p:List Int × Nat // Sift l p.1 f lo hi p.2∧p.2≤hi}) (fun p=>⟨[(0,.c (.own 16)),(2,.int hi),(3,.int f),(8,.int p.1.2)],[(16,.data .int p.1.1)],64⟩) (fun p=>hi - p.1.2) ⟨(l,lo),Sift.start hh,hlo⟩ ?_ ?_⟩
 ·exact ⟨[(16,16)],.cons _ _ _ (.c _ _ (.own _ _ rfl)) (.cons _ _ _ .same (.cons _ _ _ .same (.cons _ _ _ .same .nil))),.old 16 16 _ _ _ rfl rfl (.data_eq rfl) .nil,rfl⟩
 ·rintro ⟨⟨m,r⟩,hS,hri⟩
  have hml:m.length=l.length:=hS.srt.len
  have hri:r≤hi:=hri
  have h2r:IntKind.i64.wrap (2 * (r:Int))=((2 * r:Nat):Int):=wrapN (by omega) (by omega)
  have hC1:IntKind.i64.wrap (IntKind.i64.wrap (2 * (r:Int))+1)=((2 * r+1:Nat):Int):=wrapN (by rw [h2r];omega) (by omega)
  have hC2:IntKind.i64.wrap (IntKind.i64.wrap (IntKind.i64.wrap (2 * (r:Int))+1)+1)=((2 * r+2:Nat):Int):=wrapN (by rw [hC1];omega) (by omega)
  show ABr (decide (IntKind.i64.wrap (IntKind.i64.wrap (2 * (r:Int))+1)≥(hi:Int))) _ _
  refine ⟨fun h1=>?_,fun h1=>?_⟩
  ·have hge:hi≤2 * r+1:=by rw [hC1] at h1;simp at h1;omega
   show ARet _ _ _
   exact ⟨[(16,16)],hp16 m,[],.nil,.old 16 16 _ _ _ rfl rfl (.data_eq rfl) .nil,rfl,rfl,m,rfl,hS.srt,hS.none hge⟩
  ·have hlt:2 * r+1 < hi:=by rw [hC1] at h1;simp at h1;omega
   have hG0:IntKind.i64.wrap ((f:Int)+(r:Int))=((f+r:Nat):Int):=wrapN (by omega) (by omega)
   have n0:(IntKind.i64.wrap ((f:Int)+(r:Int))).toNat=f+r:=by rw [hG0];omega
   have hG1:IntKind.i64.wrap ((f:Int)+IntKind.i64.wrap (IntKind.i64.wrap (2 * (r:Int))+1))=((f+(2 * r+1):Nat):Int):=wrapN (by rw [hC1];omega) (by omega)
   have n1:(IntKind.i64.wrap ((f:Int)+IntKind.i64.wrap (IntKind.i64.wrap (2 * (r:Int))+1))).toNat=f+(2 * r+1):=by rw [hG1];omega
   have hG1p:IntKind.i64.wrap (IntKind.i64.wrap ((f:Int)+IntKind.i64.wrap (IntKind.i64.wrap (2 * (r:Int))+1))+1)=((f+(2 * r+2):Nat):Int):=wrapN (by rw [hG1];omega) (by omega)
   have n1p:(IntKind.i64.wrap (IntKind.i64.wrap ((f:Int)+IntKind.i64.wrap (IntKind.i64.wrap (2 * (r:Int))+1))+1)).toNat=f+(2 * r+2):=by rw [hG1p];omega
   have hG2:IntKind.i64.wrap ((f:Int)+IntKind.i64.wrap (IntKind.i64.wrap (IntKind.i64.wrap (2 * (r:Int))+1)+1))=((f+(2 * r+2):Nat):Int):=wrapN (by rw [hC2];omega) (by omega)
   have n2:(IntKind.i64.wrap ((f:Int)+IntKind.i64.wrap (IntKind.i64.wrap (IntKind.i64.wrap (2 * (r:Int))+1)+1))).toNat=f+(2 * r+2):=by rw [hG2];omega
   show ABr (decide (IntKind.i64.wrap (IntKind.i64.wrap (IntKind.i64.wrap (2 * (r:Int))+1)+1) < (hi:Int))) _ _
   refine ⟨fun h2=>?_,fun h2=>?_⟩
   ·have hrt:2 * r+2 < hi:=by rw [hC2] at h2;simp at h2;omega
    show AOb ((0:Int)≤IntKind.i64.wrap ((f:Int)+IntKind.i64.wrap (IntKind.i64.wrap (2 * (r:Int))+1))∧IntKind.i64.wrap ((f:Int)+IntKind.i64.wrap (IntKind.i64.wrap (2 * (r:Int))+1)) < (m.length:Int)) _
    refine ⟨by rw [hG1];omega,?_⟩
    show AOb ((IntKind.i64.wrap ((f:Int)+IntKind.i64.wrap (IntKind.i64.wrap (2 * (r:Int))+1))).toNat < m.length) _
    refine ⟨by rw [n1];omega,?_⟩
    show AOb ((0:Int)≤IntKind.i64.wrap (IntKind.i64.wrap ((f:Int)+IntKind.i64.wrap (IntKind.i64.wrap (2 * (r:Int))+1))+1)∧IntKind.i64.wrap (IntKind.i64.wrap ((f:Int)+IntKind.i64.wrap (IntKind.i64.wrap (2 * (r:Int))+1))+1) < (m.length:Int)) _
    refine ⟨by rw [hG1p];omega,?_⟩
    show AOb ((IntKind.i64.wrap (IntKind.i64.wrap ((f:Int)+IntKind.i64.wrap (IntKind.i64.wrap (2 * (r:Int))+1))+1)).toNat < m.length) _
    refine ⟨by rw [n1p];omega,?_⟩
    show ADCall _ _ _ _ _ _
    refine .mk [] _ (Less_spec (at0 m (IntKind.i64.wrap ((f:Int)+IntKind.i64.wrap (IntKind.i64.wrap (2 * (r:Int))+1))).toNat) (at0 m (IntKind.i64.wrap (IntKind.i64.wrap ((f:Int)+IntKind.i64.wrap (IntKind.i64.wrap (2 * (r:Int))+1))+1)).toNat)) rfl ?_
    show ABr (decide (at0 m (IntKind.i64.wrap ((f:Int)+IntKind.i64.wrap (IntKind.i64.wrap (2 * (r:Int))+1))).toNat < at0 m (IntKind.i64.wrap (IntKind.i64.wrap ((f:Int)+IntKind.i64.wrap (IntKind.i64.wrap (2 * (r:Int))+1))+1)).toNat)) _ _
    refine ⟨fun h3=>?_,fun h3=>?_⟩
    ·have hx3:at0 m (f+(2 * r+1)) < at0 m (f+(2 * r+2)):=by rw [n1,n1p] at h3;simpa using h3
     have hbig:∀ j,(j=2 * r+1∨j=2 * r+2)→j < hi→at0 m (f+j)≤at0 m (f+(2 * r+2)):=fun j hj hji=>by
      rcases hj with rfl | rfl
      ·omega
      ·exact Int.le_refl _
     show AOb ((0:Int)≤IntKind.i64.wrap ((f:Int)+(r:Int))∧IntKind.i64.wrap ((f:Int)+(r:Int)) < (m.length:Int)) _
     refine ⟨by rw [hG0];omega,?_⟩
     show AOb ((IntKind.i64.wrap ((f:Int)+(r:Int))).toNat < m.length) _
     refine ⟨by rw [n0];omega,?_⟩
     show AOb ((0:Int)≤IntKind.i64.wrap ((f:Int)+IntKind.i64.wrap (IntKind.i64.wrap (IntKind.i64.wrap (2 * (r:Int))+1)+1))∧IntKind.i64.wrap ((f:Int)+IntKind.i64.wrap (IntKind.i64.wrap (IntKind.i64.wrap (2 * (r:Int))+1)+1)) < (m.length:Int)) _
     refine ⟨by rw [hG2];omega,?_⟩
     show AOb ((IntKind.i64.wrap ((f:Int)+IntKind.i64.wrap (IntKind.i64.wrap (IntKind.i64.wrap (2 * (r:Int))+1)+1))).toNat < m.length) _
     refine ⟨by rw [n2];omega,?_⟩
     show ADCall _ _ _ _ _ _
     refine .mk [] _ (Less_spec (at0 m (IntKind.i64.wrap ((f:Int)+(r:Int))).toNat) (at0 m (IntKind.i64.wrap ((f:Int)+IntKind.i64.wrap (IntKind.i64.wrap (IntKind.i64.wrap (2 * (r:Int))+1)+1))).toNat)) rfl ?_
     show ABr (!decide (at0 m (IntKind.i64.wrap ((f:Int)+(r:Int))).toNat < at0 m (IntKind.i64.wrap ((f:Int)+IntKind.i64.wrap (IntKind.i64.wrap (IntKind.i64.wrap (2 * (r:Int))+1)+1))).toNat)) _ _
     refine ⟨fun h4=>?_,fun h4=>?_⟩
     ·have hx:at0 m (f+(2 * r+2))≤at0 m (f+r):=by rw [n0,n2] at h4;simpa using h4
      show ARet _ _ _
      exact ⟨[(16,16)],hp16 m,[],.nil,.old 16 16 _ _ _ rfl rfl (.data_eq rfl) .nil,rfl,rfl,m,rfl,hS.srt,hS.stop (c:=(2 * r+2)) (by omega) hbig hx⟩
     ·have hx:at0 m (f+r) < at0 m (f+(2 * r+2)):=by rw [n0,n2] at h4;simpa using h4
      show AOb ((0:Int)≤IntKind.i64.wrap ((f:Int)+IntKind.i64.wrap (IntKind.i64.wrap (IntKind.i64.wrap (2 * (r:Int))+1)+1))∧IntKind.i64.wrap ((f:Int)+IntKind.i64.wrap (IntKind.i64.wrap (IntKind.i64.wrap (2 * (r:Int))+1)+1)) < (m.length:Int)) _
      refine ⟨by rw [hG2];omega,?_⟩
      show AOb ((IntKind.i64.wrap ((f:Int)+IntKind.i64.wrap (IntKind.i64.wrap (IntKind.i64.wrap (2 * (r:Int))+1)+1))).toNat < m.length) _
      refine ⟨by rw [n2];omega,?_⟩
      show AOb ((0:Int)≤IntKind.i64.wrap ((f:Int)+(r:Int))∧IntKind.i64.wrap ((f:Int)+(r:Int)) < (m.length:Int)) _
      refine ⟨by rw [hG0];omega,?_⟩
      show AOb ((IntKind.i64.wrap ((f:Int)+(r:Int))).toNat < m.length) _
      refine ⟨by rw [n0];omega,?_⟩
      show AOb ((0:Int)≤IntKind.i64.wrap ((f:Int)+(r:Int))∧IntKind.i64.wrap ((f:Int)+(r:Int)) < (m.length:Int)) _
      refine ⟨by rw [hG0];omega,?_⟩
      show AOb ((IntKind.i64.wrap ((f:Int)+(r:Int))).toNat < m.length) _
      refine ⟨by rw [n0];omega,?_⟩
      show AOb ((0:Int)≤IntKind.i64.wrap ((f:Int)+IntKind.i64.wrap (IntKind.i64.wrap (IntKind.i64.wrap (2 * (r:Int))+1)+1))∧IntKind.i64.wrap ((f:Int)+IntKind.i64.wrap (IntKind.i64.wrap (IntKind.i64.wrap (2 * (r:Int))+1)+1)) < ((m.set (IntKind.i64.wrap ((f:Int)+(r:Int))).toNat (at0 m (IntKind.i64.wrap ((f:Int)+IntKind.i64.wrap (IntKind.i64.wrap (IntKind.i64.wrap (2 * (r:Int))+1)+1))).toNat)).length:Int)) _
      refine ⟨by rw [List.length_set];rw [hG2];omega,?_⟩
      show AOb ((IntKind.i64.wrap ((f:Int)+IntKind.i64.wrap (IntKind.i64.wrap (IntKind.i64.wrap (2 * (r:Int))+1)+1))).toNat < (m.set (IntKind.i64.wrap ((f:Int)+(r:Int))).toNat (at0 m (IntKind.i64.wrap ((f:Int)+IntKind.i64.wrap (IntKind.i64.wrap (IntKind.i64.wrap (2 * (r:Int))+1)+1))).toNat)).length) _
      refine ⟨by rw [List.length_set];rw [n2];omega,?_⟩
      show ARound _ _ _ _
      refine ⟨⟨(swp m (f+r) (f+(2 * r+2)),(2 * r+2)),hS.step hl (by omega) (by omega) hbig hx,by show (2 * r+2)≤hi;omega⟩,by show hi - (2 * r+2) < hi - r;omega,[(16,16)],.cons _ _ _ (.c _ _ (.own _ _ rfl)) (.cons _ _ _ .same (.cons _ _ _ .same (.cons _ _ _ (.int_eq hC2) .nil))),.old 16 16 _ _ _ rfl rfl (.data_eq ?_) .nil,rfl⟩
      show (m.set (IntKind.i64.wrap ((f:Int)+(r:Int))).toNat (at0 m (IntKind.i64.wrap ((f:Int)+IntKind.i64.wrap (IntKind.i64.wrap (IntKind.i64.wrap (2 * (r:Int))+1)+1))).toNat)).set (IntKind.i64.wrap ((f:Int)+IntKind.i64.wrap (IntKind.i64.wrap (IntKind.i64.wrap (2 * (r:Int))+1)+1))).toNat (at0 m (IntKind.i64.wrap ((f:Int)+(r:Int))).toNat)=swp m (f+r) (f+(2 * r+2))
      rw [n0,n2]
      rfl
    ·have hx3:at0 m (f+(2 * r+2))≤at0 m (f+(2 * r+1)):=by rw [n1,n1p] at h3;simpa using h3
     have hbig:∀ j,(j=2 * r+1∨j=2 * r+2)→j < hi→at0 m (f+j)≤at0 m (f+(2 * r+1)):=fun j hj hji=>by
      rcases hj with rfl | rfl
      ·exact Int.le_refl _
      ·exact hx3
     show AOb ((0:Int)≤IntKind.i64.wrap ((f:Int)+(r:Int))∧IntKind.i64.wrap ((f:Int)+(r:Int)) < (m.length:Int)) _
     refine ⟨by rw [hG0];omega,?_⟩
     show AOb ((IntKind.i64.wrap ((f:Int)+(r:Int))).toNat < m.length) _
     refine ⟨by rw [n0];omega,?_⟩
     show AOb ((0:Int)≤IntKind.i64.wrap ((f:Int)+IntKind.i64.wrap (IntKind.i64.wrap (2 * (r:Int))+1))∧IntKind.i64.wrap ((f:Int)+IntKind.i64.wrap (IntKind.i64.wrap (2 * (r:Int))+1)) < (m.length:Int)) _
     refine ⟨by rw [hG1];omega,?_⟩
     show AOb ((IntKind.i64.wrap ((f:Int)+IntKind.i64.wrap (IntKind.i64.wrap (2 * (r:Int))+1))).toNat < m.length) _
     refine ⟨by rw [n1];omega,?_⟩
     show ADCall _ _ _ _ _ _
     refine .mk [] _ (Less_spec (at0 m (IntKind.i64.wrap ((f:Int)+(r:Int))).toNat) (at0 m (IntKind.i64.wrap ((f:Int)+IntKind.i64.wrap (IntKind.i64.wrap (2 * (r:Int))+1))).toNat)) rfl ?_
     show ABr (!decide (at0 m (IntKind.i64.wrap ((f:Int)+(r:Int))).toNat < at0 m (IntKind.i64.wrap ((f:Int)+IntKind.i64.wrap (IntKind.i64.wrap (2 * (r:Int))+1))).toNat)) _ _
     refine ⟨fun h4=>?_,fun h4=>?_⟩
     ·have hx:at0 m (f+(2 * r+1))≤at0 m (f+r):=by rw [n0,n1] at h4;simpa using h4
      show ARet _ _ _
      exact ⟨[(16,16)],hp16 m,[],.nil,.old 16 16 _ _ _ rfl rfl (.data_eq rfl) .nil,rfl,rfl,m,rfl,hS.srt,hS.stop (c:=(2 * r+1)) (by omega) hbig hx⟩
     ·have hx:at0 m (f+r) < at0 m (f+(2 * r+1)):=by rw [n0,n1] at h4;simpa using h4
      show AOb ((0:Int)≤IntKind.i64.wrap ((f:Int)+IntKind.i64.wrap (IntKind.i64.wrap (2 * (r:Int))+1))∧IntKind.i64.wrap ((f:Int)+IntKind.i64.wrap (IntKind.i64.wrap (2 * (r:Int))+1)) < (m.length:Int)) _
      refine ⟨by rw [hG1];omega,?_⟩
      show AOb ((IntKind.i64.wrap ((f:Int)+IntKind.i64.wrap (IntKind.i64.wrap (2 * (r:Int))+1))).toNat < m.length) _
      refine ⟨by rw [n1];omega,?_⟩
      show AOb ((0:Int)≤IntKind.i64.wrap ((f:Int)+(r:Int))∧IntKind.i64.wrap ((f:Int)+(r:Int)) < (m.length:Int)) _
      refine ⟨by rw [hG0];omega,?_⟩
      show AOb ((IntKind.i64.wrap ((f:Int)+(r:Int))).toNat < m.length) _
      refine ⟨by rw [n0];omega,?_⟩
      show AOb ((0:Int)≤IntKind.i64.wrap ((f:Int)+(r:Int))∧IntKind.i64.wrap ((f:Int)+(r:Int)) < (m.length:Int)) _
      refine ⟨by rw [hG0];omega,?_⟩
      show AOb ((IntKind.i64.wrap ((f:Int)+(r:Int))).toNat < m.length) _
      refine ⟨by rw [n0];omega,?_⟩
      show AOb ((0:Int)≤IntKind.i64.wrap ((f:Int)+IntKind.i64.wrap (IntKind.i64.wrap (2 * (r:Int))+1))∧IntKind.i64.wrap ((f:Int)+IntKind.i64.wrap (IntKind.i64.wrap (2 * (r:Int))+1)) < ((m.set (IntKind.i64.wrap ((f:Int)+(r:Int))).toNat (at0 m (IntKind.i64.wrap ((f:Int)+IntKind.i64.wrap (IntKind.i64.wrap (2 * (r:Int))+1))).toNat)).length:Int)) _
      refine ⟨by rw [List.length_set];rw [hG1];omega,?_⟩
      show AOb ((IntKind.i64.wrap ((f:Int)+IntKind.i64.wrap (IntKind.i64.wrap (2 * (r:Int))+1))).toNat < (m.set (IntKind.i64.wrap ((f:Int)+(r:Int))).toNat (at0 m (IntKind.i64.wrap ((f:Int)+IntKind.i64.wrap (IntKind.i64.wrap (2 * (r:Int))+1))).toNat)).length) _
      refine ⟨by rw [List.length_set];rw [n1];omega,?_⟩
      show ARound _ _ _ _
      refine ⟨⟨(swp m (f+r) (f+(2 * r+1)),(2 * r+1)),hS.step hl (by omega) (by omega) hbig hx,by show (2 * r+1)≤hi;omega⟩,by show hi - (2 * r+1) < hi - r;omega,[(16,16)],.cons _ _ _ (.c _ _ (.own _ _ rfl)) (.cons _ _ _ .same (.cons _ _ _ .same (.cons _ _ _ (.int_eq hC1) .nil))),.old 16 16 _ _ _ rfl rfl (.data_eq ?_) .nil,rfl⟩
      show (m.set (IntKind.i64.wrap ((f:Int)+(r:Int))).toNat (at0 m (IntKind.i64.wrap ((f:Int)+IntKind.i64.wrap (IntKind.i64.wrap (2 * (r:Int))+1))).toNat)).set (IntKind.i64.wrap ((f:Int)+IntKind.i64.wrap (IntKind.i64.wrap (2 * (r:Int))+1))).toNat (at0 m (IntKind.i64.wrap ((f:Int)+(r:Int))).toNat)=swp m (f+r) (f+(2 * r+1))
      rw [n0,n1]
      rfl
   ·have hrt:hi≤2 * r+2:=by rw [hC2] at h2;simp at h2;omega
    show ABr _ _ _
    refine ⟨fun hx=>absurd hx (by decide),fun _=>?_⟩
    have hbig:∀ j,(j=2 * r+1∨j=2 * r+2)→j < hi→at0 m (f+j)≤at0 m (f+(2 * r+1)):=fun j hj hji=>by
     rcases hj with rfl | rfl
     ·exact Int.le_refl _
     ·omega
    show AOb ((0:Int)≤IntKind.i64.wrap ((f:Int)+(r:Int))∧IntKind.i64.wrap ((f:Int)+(r:Int)) < (m.length:Int)) _
    refine ⟨by rw [hG0];omega,?_⟩
    show AOb ((IntKind.i64.wrap ((f:Int)+(r:Int))).toNat < m.length) _
    refine ⟨by rw [n0];omega,?_⟩
    show AOb ((0:Int)≤IntKind.i64.wrap ((f:Int)+IntKind.i64.wrap (IntKind.i64.wrap (2 * (r:Int))+1))∧IntKind.i64.wrap ((f:Int)+IntKind.i64.wrap (IntKind.i64.wrap (2 * (r:Int))+1)) < (m.length:Int)) _
    refine ⟨by rw [hG1];omega,?_⟩
    show AOb ((IntKind.i64.wrap ((f:Int)+IntKind.i64.wrap (IntKind.i64.wrap (2 * (r:Int))+1))).toNat < m.length) _
    refine ⟨by rw [n1];omega,?_⟩
    show ADCall _ _ _ _ _ _
    refine .mk [] _ (Less_spec (at0 m (IntKind.i64.wrap ((f:Int)+(r:Int))).toNat) (at0 m (IntKind.i64.wrap ((f:Int)+IntKind.i64.wrap (IntKind.i64.wrap (2 * (r:Int))+1))).toNat)) rfl ?_
    show ABr (!decide (at0 m (IntKind.i64.wrap ((f:Int)+(r:Int))).toNat < at0 m (IntKind.i64.wrap ((f:Int)+IntKind.i64.wrap (IntKind.i64.wrap (2 * (r:Int))+1))).toNat)) _ _
    refine ⟨fun h4=>?_,fun h4=>?_⟩
    ·have hx:at0 m (f+(2 * r+1))≤at0 m (f+r):=by rw [n0,n1] at h4;simpa using h4
     show ARet _ _ _
     exact ⟨[(16,16)],hp16 m,[],.nil,.old 16 16 _ _ _ rfl rfl (.data_eq rfl) .nil,rfl,rfl,m,rfl,hS.srt,hS.stop (c:=(2 * r+1)) (by omega) hbig hx⟩
    ·have hx:at0 m (f+r) < at0 m (f+(2 * r+1)):=by rw [n0,n1] at h4;simpa using h4
     show AOb ((0:Int)≤IntKind.i64.wrap ((f:Int)+IntKind.i64.wrap (IntKind.i64.wrap (2 * (r:Int))+1))∧IntKind.i64.wrap ((f:Int)+IntKind.i64.wrap (IntKind.i64.wrap (2 * (r:Int))+1)) < (m.length:Int)) _
     refine ⟨by rw [hG1];omega,?_⟩
     show AOb ((IntKind.i64.wrap ((f:Int)+IntKind.i64.wrap (IntKind.i64.wrap (2 * (r:Int))+1))).toNat < m.length) _
     refine ⟨by rw [n1];omega,?_⟩
     show AOb ((0:Int)≤IntKind.i64.wrap ((f:Int)+(r:Int))∧IntKind.i64.wrap ((f:Int)+(r:Int)) < (m.length:Int)) _
     refine ⟨by rw [hG0];omega,?_⟩
     show AOb ((IntKind.i64.wrap ((f:Int)+(r:Int))).toNat < m.length) _
     refine ⟨by rw [n0];omega,?_⟩
     show AOb ((0:Int)≤IntKind.i64.wrap ((f:Int)+(r:Int))∧IntKind.i64.wrap ((f:Int)+(r:Int)) < (m.length:Int)) _
     refine ⟨by rw [hG0];omega,?_⟩
     show AOb ((IntKind.i64.wrap ((f:Int)+(r:Int))).toNat < m.length) _
     refine ⟨by rw [n0];omega,?_⟩
     show AOb ((0:Int)≤IntKind.i64.wrap ((f:Int)+IntKind.i64.wrap (IntKind.i64.wrap (2 * (r:Int))+1))∧IntKind.i64.wrap ((f:Int)+IntKind.i64.wrap (IntKind.i64.wrap (2 * (r:Int))+1)) < ((m.set (IntKind.i64.wrap ((f:Int)+(r:Int))).toNat (at0 m (IntKind.i64.wrap ((f:Int)+IntKind.i64.wrap (IntKind.i64.wrap (2 * (r:Int))+1))).toNat)).length:Int)) _
     refine ⟨by rw [List.length_set];rw [hG1];omega,?_⟩
     show AOb ((IntKind.i64.wrap ((f:Int)+IntKind.i64.wrap (IntKind.i64.wrap (2 * (r:Int))+1))).toNat < (m.set (IntKind.i64.wrap ((f:Int)+(r:Int))).toNat (at0 m (IntKind.i64.wrap ((f:Int)+IntKind.i64.wrap (IntKind.i64.wrap (2 * (r:Int))+1))).toNat)).length) _
     refine ⟨by rw [List.length_set];rw [n1];omega,?_⟩
     show ARound _ _ _ _
     refine ⟨⟨(swp m (f+r) (f+(2 * r+1)),(2 * r+1)),hS.step hl (by omega) (by omega) hbig hx,by show (2 * r+1)≤hi;omega⟩,by show hi - (2 * r+1) < hi - r;omega,[(16,16)],.cons _ _ _ (.c _ _ (.own _ _ rfl)) (.cons _ _ _ .same (.cons _ _ _ .same (.cons _ _ _ (.int_eq hC1) .nil))),.old 16 16 _ _ _ rfl rfl (.data_eq ?_) .nil,rfl⟩
     show (m.set (IntKind.i64.wrap ((f:Int)+(r:Int))).toNat (at0 m (IntKind.i64.wrap ((f:Int)+IntKind.i64.wrap (IntKind.i64.wrap (2 * (r:Int))+1))).toNat)).set (IntKind.i64.wrap ((f:Int)+IntKind.i64.wrap (IntKind.i64.wrap (2 * (r:Int))+1))).toNat (at0 m (IntKind.i64.wrap ((f:Int)+(r:Int))).toNat)=swp m (f+r) (f+(2 * r+1))
     rw [n0,n1]
     rfl
end Go.Abs
namespace Go.Abs
open Go.Proofs Go.Proofs.YtejnngjfjaeiiaaGreatDoor
set_option maxRecDepth 8000
theorem HS.pre {l m:List Int} {f n i:Nat} (h:HS l m f n (i+1)) (hl:f+n≤l.length):HeapAt (swp m f (f+i)) f (0+1) i:=by
 have hml:=h.srt.len
 have hin:=h.hin
 intro p q h1 h2 h3
 have hat:=swp_at m f (f+i)
 rw [hat (f+q) (by omega) (by omega),hat (f+p) (by omega) (by omega),if_neg (by omega),if_neg (by omega),if_neg (by omega),if_neg (by omega)]
 exact h.heap p q (Nat.zero_le _) h2 (by omega)
set_option maxHeartbeats 1000000 in
theorem heapSort_spec (l:List Int) (a b:Nat) (hab:a < b) (hb:b≤l.length):Spec X 202 (hp16 l) [.c (.own 16),.int a,.int b] (SortQ l a b):=by
 refine spec_go X_ok Tryz.f202 (by kernel_rfl) (by kernel_rfl) (by kernel_rfl) fun hbd hH=>⟨rfl,?_⟩
 have hmax:l.length≤maxN:=hH 16 .int l rfl
 have hmx:l.length≤140737488355328:=hmax
 have hL:IntKind.i64.wrap ((b:Int) - (a:Int))=((b - a:Nat):Int):=wrapN (by omega) (by omega)
 have hL1:IntKind.i64.wrap (IntKind.i64.wrap ((b:Int) - (a:Int)) - 1)=((b - a - 1:Nat):Int):=wrapN (by rw [hL];omega) (by omega)
 have hD:((IntKind.i64.wrap (IntKind.i64.wrap ((b:Int) - (a:Int)) - 1)).tdiv 2)=(((b - a - 1) / 2:Nat):Int):=by rw [hL1];exact tdivN _ 2
 have hQ:IntKind.i64.wrap ((IntKind.i64.wrap (IntKind.i64.wrap ((b:Int) - (a:Int)) - 1)).tdiv 2)=(((b - a - 1) / 2:Nat):Int):=wrapN hD (by omega)
 have hn:a+(b - a)=b:=by omega
 show AOb ((2:Int)≠0) _
 refine ⟨by decide,?_⟩
 show ∃ n,_
 refine ⟨0,ALoop.inv (ι:={p:List Int × Nat // Srt l p.1 a (a+(b - a))∧HeapAt p.1 a p.2 (b - a)∧p.2≤b - a}) (fun p=>⟨[(0,.c (.own 16)),(6,.int a),(7,.int 0),(8,.int (b - a:Nat)),(9,.int ((p.1.2:Int) - 1))],[(16,.data .int p.1.1)],64⟩) (fun p=>p.1.2) ⟨(l,(b - a - 1) / 2+1),Srt.refl _ _ _,fun i j h1 h2 h3=>by have h1:(b - a - 1) / 2+1≤i:=h1;omega,by show (b - a - 1) / 2+1≤b - a;omega⟩ ?_ ?_⟩
 ·refine ⟨[(16,16)],.cons _ _ _ (.c _ _ (.own _ _ rfl)) (.cons _ _ _ .same (.cons _ _ _ .same (.cons _ _ _ (.int_eq hL) (.cons _ _ _ (.int_eq ?_) .nil)))),.old 16 16 _ _ _ rfl rfl (.data_eq rfl) .nil,rfl⟩
  show IntKind.i64.wrap ((IntKind.i64.wrap (IntKind.i64.wrap ((b:Int) - (a:Int)) - 1)).tdiv 2)=(((b - a - 1) / 2+1:Nat):Int) - 1
  rw [hQ];omega
 ·rintro ⟨⟨m,j⟩,hs,hh,hj⟩
  have hml:m.length=l.length:=hs.len
  have hj:j≤b - a:=hj
  show ABr (decide ((j:Int) - 1≥0)) _ _
  refine ⟨fun h1=>?_,fun h1=>?_⟩
  ·have hjp:0 < j:=by simp at h1;omega
   have ej:(j:Int) - 1=((j - 1:Nat):Int):=by omega
   show ACall _ _ _ _ _ _
   refine .hand [(16,16)] (hp16 m) [.c (.own 16),.int (j - 1:Nat),.int (b - a:Nat),.int a] _ (.cons _ _ _ _ (.c _ _ (.own _ _ rfl)) (.cons _ _ _ _ (.int_eq ej) (.cons _ _ _ _ .same (.cons _ _ _ _ .same .nil)))) (.old 16 16 _ _ _ rfl rfl (.data_eq rfl) .nil) rfl (sift_spec m (j - 1) (b - a) a (by omega) (by rw [show j - 1+1=j by omega];exact hh) (by omega)) ?_
   rintro H r ⟨rfl,m',rfl,g1,g2⟩ _ _
   refine ⟨rfl,.inr ⟨rfl,rfl⟩,?_⟩
   show ARound _ _ _ _
   refine ⟨⟨(m',j - 1),hs.trans g1,g2,by show j - 1≤b - a;omega⟩,by show j - 1 < j;omega,[(16,16)],.cons _ _ _ (.c _ _ (.own _ _ rfl)) (.cons _ _ _ .same (.cons _ _ _ .same (.cons _ _ _ .same (.cons _ _ _ (.int_eq ?_) .nil)))),.old 16 16 _ _ _ rfl rfl (.data_eq rfl) .nil,rfl⟩
   show IntKind.i64.wrap ((j:Int) - 1 - 1)=((j - 1:Nat):Int) - 1
   rw [wrap64 (by omega) (by omega)];omega
  ·have hj0:j=0:=by simp at h1;omega
   subst hj0
   show ∃ n,_
   refine ⟨0,ALoop.inv (ι:={p:List Int × Nat // HS l p.1 a (b - a) p.2}) (fun p=>⟨[(0,.c (.own 16)),(6,.int a),(7,.int 0),(10,.int ((p.1.2:Int) - 1))],[(16,.data .int p.1.1)],64⟩) (fun p=>p.1.2) ⟨(m,b - a),HS.start hs hh⟩ ?_ ?_⟩
   ·refine ⟨[(16,16)],.cons _ _ _ (.c _ _ (.own _ _ rfl)) (.cons _ _ _ .same (.cons _ _ _ .same (.cons _ _ _ (.int_eq ?_) .nil))),.old 16 16 _ _ _ rfl rfl (.data_eq rfl) .nil,rfl⟩
    show IntKind.i64.wrap (((b - a:Nat):Int) - 1)=((b - a:Nat):Int) - 1
    rw [wrap64 (by omega) (by omega)]
   ·rintro ⟨⟨m,k⟩,hS⟩
    have hml:m.length=l.length:=hS.srt.len
    have hk:k≤b - a:=hS.hin
    show ABr (decide ((k:Int) - 1≥0)) _ _
    refine ⟨fun h1=>?_,fun h1=>?_⟩
    ·have hkp:0 < k:=by simp at h1;omega
     obtain ⟨i,rfl⟩:∃ i,k=i+1:=⟨k - 1,by omega⟩
     have hG:IntKind.i64.wrap ((a:Int)+(((i+1:Nat):Int) - 1))=((a+i:Nat):Int):=wrapN (by omega) (by omega)
     have hN:(IntKind.i64.wrap ((a:Int)+(((i+1:Nat):Int) - 1))).toNat=a+i:=by rw [hG];omega
     show AOb ((0:Int)≤IntKind.i64.wrap ((a:Int)+(((i+1:Nat):Int) - 1))∧IntKind.i64.wrap ((a:Int)+(((i+1:Nat):Int) - 1)) < (m.length:Int)) _
     refine ⟨by rw [hG];omega,?_⟩
     show AOb ((IntKind.i64.wrap ((a:Int)+(((i+1:Nat):Int) - 1))).toNat < m.length) _
     refine ⟨by rw [hN];omega,?_⟩
     show AOb ((0:Int)≤(a:Int)∧(a:Int) < (m.length:Int)) _
     refine ⟨by omega,?_⟩
     show AOb ((a:Int).toNat < m.length) _
     refine ⟨by omega,?_⟩
     show AOb ((0:Int)≤(a:Int)∧(a:Int) < (m.length:Int)) _
     refine ⟨by omega,?_⟩
     show AOb ((a:Int).toNat < m.length) _
     refine ⟨by omega,?_⟩
     show AOb ((0:Int)≤IntKind.i64.wrap ((a:Int)+(((i+1:Nat):Int) - 1))∧IntKind.i64.wrap ((a:Int)+(((i+1:Nat):Int) - 1)) < ((m.set (a:Int).toNat (at0 m (IntKind.i64.wrap ((a:Int)+(((i+1:Nat):Int) - 1))).toNat)).length:Int)) _
     refine ⟨by rw [List.length_set,hG];omega,?_⟩
     show AOb ((IntKind.i64.wrap ((a:Int)+(((i+1:Nat):Int) - 1))).toNat < (m.set (a:Int).toNat (at0 m (IntKind.i64.wrap ((a:Int)+(((i+1:Nat):Int) - 1))).toNat)).length) _
     refine ⟨by rw [List.length_set,hN];omega,?_⟩
     have ei:(((i+1:Nat):Int) - 1)=((i:Nat):Int):=by omega
     have es:(m.set (a:Int).toNat (at0 m (IntKind.i64.wrap ((a:Int)+(((i+1:Nat):Int) - 1))).toNat)).set (IntKind.i64.wrap ((a:Int)+(((i+1:Nat):Int) - 1))).toNat (at0 m (a:Int).toNat)=swp m a (a+i):=by rw [hN];rfl
     show ACall _ _ _ _ _ _
     refine .hand [(16,16)] (hp16 (swp m a (a+i))) [.c (.own 16),.int (0:Nat),.int i,.int a] _ (.cons _ _ _ _ (.c _ _ (.own _ _ rfl)) (.cons _ _ _ _ .same (.cons _ _ _ _ (.int_eq ei) (.cons _ _ _ _ .same .nil)))) (.old 16 16 _ _ _ rfl rfl (.data_eq es) .nil) rfl (sift_spec (swp m a (a+i)) 0 i a (by rw [swp_len];omega) (hS.pre (by omega)) (Nat.zero_le _)) ?_
     rintro H r ⟨rfl,m',rfl,g1,g2⟩ _ _
     refine ⟨rfl,.inr ⟨rfl,rfl⟩,?_⟩
     show ARound _ _ _ _
     refine ⟨⟨(m',i),hS.step (by omega) g1 g2⟩,by show i < i+1;omega,[(16,16)],.cons _ _ _ (.c _ _ (.own _ _ rfl)) (.cons _ _ _ .same (.cons _ _ _ .same (.cons _ _ _ (.int_eq ?_) .nil))),.old 16 16 _ _ _ rfl rfl (.data_eq rfl) .nil,rfl⟩
     show IntKind.i64.wrap (((i+1:Nat):Int) - 1 - 1)=(i:Int) - 1
     rw [wrap64 (by omega) (by omega)];omega
    ·have hk0:k=0:=by simp at h1;omega
     subst hk0
     show ARet _ _ _
     refine ⟨[(16,16)],hp16 m,[],.nil,.old 16 16 _ _ _ rfl rfl (.data_eq rfl) .nil,rfl,rfl,m,rfl,?_,?_⟩
     ·have:=hS.srt;rwa [hn] at this
     ·have:=HS.done hS;rwa [hn] at this
end Go.Abs
namespace Go.Abs
open Go.Proofs Go.Proofs.YtejnngjfjaeiiaaGreatDoor
set_option maxRecDepth 8000
set_option maxHeartbeats 4000000 in
theorem pdq_all:∀ (n:Nat) (l:List Int) (a b:Nat) (lim:Int),b - a≤n→a≤b→b≤l.length→Lws l a b→Spec X 160 (hp16 l) [.c (.own 16),.int a,.int b,.int lim] (SortQ l a b):=by
 intro n
 induction n using Nat.strongRecOn with
 | _ n ih=>
 intro l a b lim hn hab hbl hlow
 refine spec_go X_ok Tryz.f160 (by kernel_rfl) (by kernel_rfl) (by kernel_rfl) fun hb hH=>⟨rfl,?_⟩
 have hmax:l.length≤maxN:=hH 16 .int l rfl
 have hmx:l.length≤140737488355328:=hmax
 show ∃ n,_
 refine ⟨0,ALoop.inv (ι:={p:List Int × Nat × Nat × Int × Bool × Bool // PQ l p.1 a b p.2.1 p.2.2.1}) (fun p=>⟨[(0,.c (.own 16)),(1,.int p.1.2.1),(2,.int p.1.2.2.1),(3,.int p.1.2.2.2.1),(8,.bo p.1.2.2.2.2.1),(9,.bo p.1.2.2.2.2.2)],[(16,.data .int p.1.1)],64⟩) (fun p=>p.1.2.2.1 - p.1.2.1) ⟨(l,a,b,lim,true,true),PQ.start l hab⟩ ?_ ?_⟩
 ·exact ⟨[(16,16)],.cons _ _ _ (.c _ _ (.own _ _ rfl)) (.cons _ _ _ .same (.cons _ _ _ .same (.cons _ _ _ .same (.cons _ _ _ .same (.cons _ _ _ .same .nil))))),.old 16 16 _ _ _ rfl rfl (.data_eq rfl) .nil,rfl⟩
 ·rintro ⟨⟨m,c,d,lim,x,y⟩,hP⟩
  have hP:PQ l m a b c d:=hP
  have hml:m.length=l.length:=hP.srt.len
  have hac:a≤c:=hP.ac
  have hcd:c≤d:=hP.cd
  have hdb:d≤b:=hP.db
  have hw:IntKind.i64.wrap ((d:Int) - (c:Int))=((d - c:Nat):Int):=wrapN (by omega) (by omega)
  show ABr (decide (IntKind.i64.wrap ((d:Int) - (c:Int))≤12)) _ _
  refine ⟨fun _=>?_,fun hx=>?_⟩
  ·skip
   show ACall _ _ _ _ _ _
   refine .hand [(16,16)] (hp16 m) [.c (.own 16),.int c,.int d] (SortQ m c d) (.cons _ _ _ _ (.c _ _ (.own _ _ rfl)) (.cons _ _ _ _ .same (.cons _ _ _ _ .same .nil))) (.old 16 16 _ _ _ rfl rfl (.data_eq rfl) .nil) rfl (ins_spec m c d hcd (by omega)) ?_
   rintro H r ⟨rfl,m',rfl,g1,g2⟩ _ _
   refine ⟨rfl,.inr ⟨rfl,rfl⟩,?_⟩
   show ARet _ _ _
   exact ⟨[(16,16)],hp16 m',[],.nil,.old 16 16 _ _ _ rfl rfl (.data_eq rfl) .nil,rfl,rfl,m',rfl,(hP.mix hbl g1).srt,(hP.mix hbl g1).done g2⟩
  ·have h12:c+12 < d:=by rw [hw] at hx;simp at hx;omega
   show ABr (decide (lim=0)) _ _
   refine ⟨fun _=>?_,fun _=>?_⟩
   ·skip
    show ACall _ _ _ _ _ _
    refine .hand [(16,16)] (hp16 m) [.c (.own 16),.int c,.int d] (SortQ m c d) (.cons _ _ _ _ (.c _ _ (.own _ _ rfl)) (.cons _ _ _ _ .same (.cons _ _ _ _ .same .nil))) (.old 16 16 _ _ _ rfl rfl (.data_eq rfl) .nil) rfl (heapSort_spec m c d (by omega) (by omega)) ?_
    rintro H r ⟨rfl,m',rfl,g1,g2⟩ _ _
    refine ⟨rfl,.inr ⟨rfl,rfl⟩,?_⟩
    show ARet _ _ _
    exact ⟨[(16,16)],hp16 m',[],.nil,.old 16 16 _ _ _ rfl rfl (.data_eq rfl) .nil,rfl,rfl,m',rfl,(hP.mix hbl g1).srt,(hP.mix hbl g1).done g2⟩
   ·skip
    cases x
    ·show ABr (!false) _ _
     refine ⟨fun _=>?_,fun hx=>absurd hx (by decide)⟩
     show ACall _ _ _ _ _ _
     refine .hand [(16,16)] (hp16 m) [.c (.own 16),.int c,.int d] _ (.cons _ _ _ _ (.c _ _ (.own _ _ rfl)) (.cons _ _ _ _ .same (.cons _ _ _ _ .same .nil))) (.old 16 16 _ _ _ rfl rfl (.data_eq rfl) .nil) rfl (break_spec m c d h12 (by omega)) ?_
     rintro H r ⟨rfl,mb,rfl,gb⟩ _ _
     refine ⟨rfl,.inr ⟨rfl,rfl⟩,?_⟩
     have hPP:PQ l mb a b c d:=hP.mix hbl gb
     have hmm:mb.length=l.length:=hPP.srt.len
     show ACall _ _ _ _ _ _
     refine .hand [(16,16)] (hp16 mb) [.c (.own 16),.int c,.int d] _ (.cons _ _ _ _ (.c _ _ (.own _ _ rfl)) (.cons _ _ _ _ .same (.cons _ _ _ _ .same .nil))) (.old 16 16 _ _ _ rfl rfl (.data_eq rfl) .nil) rfl (choosePivot_spec mb c d h12 (by omega)) ?_
     rintro H r ⟨q,hint,rfl,rfl,q1,q2⟩ _ _
     refine ⟨rfl,.inr ⟨rfl,rfl⟩,?_⟩
     show ABr (decide (hint=2)) _ _
     refine ⟨fun _=>?_,fun _=>?_⟩
     ·skip
      show ACall _ _ _ _ _ _
      refine .hand [(16,16)] (hp16 mb) [.c (.own 16),.int c,.int d] (SrtQ mb c d) (.cons _ _ _ _ (.c _ _ (.own _ _ rfl)) (.cons _ _ _ _ .same (.cons _ _ _ _ .same .nil))) (.old 16 16 _ _ _ rfl rfl (.data_eq rfl) .nil) rfl (rev_spec mb c d (by omega) (by omega)) ?_
      rintro H r ⟨rfl,mr,rfl,gr⟩ _ _
      refine ⟨rfl,.inr ⟨rfl,rfl⟩,?_⟩
      have hPP:PQ l mr a b c d:=hPP.mix hbl gr
      have hmm:mr.length=l.length:=hPP.srt.len
      have hd1:IntKind.i64.wrap ((d:Int) - 1)=((d - 1:Nat):Int):=wrapN (by omega) (by omega)
      have hqc:IntKind.i64.wrap ((q:Int) - (c:Int))=((q - c:Nat):Int):=wrapN (by omega) (by omega)
      have hq2:IntKind.i64.wrap (IntKind.i64.wrap ((d:Int) - 1) - IntKind.i64.wrap ((q:Int) - (c:Int)))=((d - 1 - (q - c):Nat):Int):=wrapN (by rw [hd1,hqc];omega) (by omega)
      show ABr _ _ _
      refine ⟨fun hx=>absurd (show false=true from hx) (by decide),fun _=>?_⟩
      show ABr (decide ((c:Int) > 0)) _ _
      refine ⟨fun hx=>?_,fun hx=>?_⟩
      ·have hc0:0 < c:=by simp at hx;omega
       have hwc:IntKind.i64.wrap ((c:Int) - 1)=((c - 1:Nat):Int):=wrapN (by omega) (by omega)
       show AOb ((0:Int)≤IntKind.i64.wrap ((c:Int) - 1)∧IntKind.i64.wrap ((c:Int) - 1) < (mr.length:Int)) _
       refine ⟨by rw [hwc];omega,?_⟩
       show AOb ((IntKind.i64.wrap ((c:Int) - 1)).toNat < mr.length) _
       refine ⟨by rw [hwc];omega,?_⟩
       show AOb ((0:Int)≤IntKind.i64.wrap (IntKind.i64.wrap ((d:Int) - 1) - IntKind.i64.wrap ((q:Int) - (c:Int)))∧IntKind.i64.wrap (IntKind.i64.wrap ((d:Int) - 1) - IntKind.i64.wrap ((q:Int) - (c:Int))) < (mr.length:Int)) _
       refine ⟨by rw [hq2];omega,?_⟩
       show AOb ((IntKind.i64.wrap (IntKind.i64.wrap ((d:Int) - 1) - IntKind.i64.wrap ((q:Int) - (c:Int)))).toNat < mr.length) _
       refine ⟨by rw [hq2];omega,?_⟩
       have eq1:(IntKind.i64.wrap ((c:Int) - 1)).toNat=c - 1:=by rw [hwc];omega
       have eq2:(IntKind.i64.wrap (IntKind.i64.wrap ((d:Int) - 1) - IntKind.i64.wrap ((q:Int) - (c:Int)))).toNat=(d - 1 - (q - c)):=by rw [hq2];omega
       show ADCall _ _ _ _ _ _
       refine .mk [] _ (Less_spec (at0 mr (IntKind.i64.wrap ((c:Int) - 1)).toNat) (at0 mr (IntKind.i64.wrap (IntKind.i64.wrap ((d:Int) - 1) - IntKind.i64.wrap ((q:Int) - (c:Int)))).toNat)) rfl ?_
       rw [eq1,eq2]
       show ABr (!decide (at0 mr (c - 1) < at0 mr (d - 1 - (q - c)))) _ _
       refine ⟨fun hz=>?_,fun _=>?_⟩
       ·skip
        show ACall _ _ _ _ _ _
        refine .hand [(16,16)] (hp16 mr) [.c (.own 16),.int c,.int d,.int ((d - 1 - (q - c)):Nat)] _ (.cons _ _ _ _ (.c _ _ (.own _ _ rfl)) (.cons _ _ _ _ .same (.cons _ _ _ _ .same (.cons _ _ _ _ (.int_eq hq2) .nil)))) (.old 16 16 _ _ _ rfl rfl (.data_eq rfl) .nil) rfl (partEq_spec mr c d (d - 1 - (q - c)) (by omega) (by omega) (by omega)) ?_
        rintro H r ⟨mid,m2,rfl,rfl,g⟩ _ _
        refine ⟨rfl,.inr ⟨rfl,rfl⟩,?_⟩
        show ARound _ _ _ _
        exact ⟨⟨(m2,mid,d,IntKind.i64.wrap (lim - 1),false,y),hPP.eq hbl ((hPP.low hlow hbl).piv hc0 (by simp at hz;omega)) g⟩,by have:=g.2.1;show d - mid < d - c;omega,[(16,16)],.cons _ _ _ (.c _ _ (.own _ _ rfl)) (.cons _ _ _ .same (.cons _ _ _ .same (.cons _ _ _ .same (.cons _ _ _ .same (.cons _ _ _ .same .nil))))),.old 16 16 _ _ _ rfl rfl (.data_eq rfl) .nil,rfl⟩
       ·skip
        show ACall _ _ _ _ _ _
        refine .hand [(16,16)] (hp16 mr) [.c (.own 16),.int c,.int d,.int ((d - 1 - (q - c)):Nat)] _ (.cons _ _ _ _ (.c _ _ (.own _ _ rfl)) (.cons _ _ _ _ .same (.cons _ _ _ _ .same (.cons _ _ _ _ (.int_eq hq2) .nil)))) (.old 16 16 _ _ _ rfl rfl (.data_eq rfl) .nil) rfl (part_spec mr c d (d - 1 - (q - c)) (by omega) (by omega) (by omega)) ?_
        rintro H r ⟨mid,z,m2,rfl,rfl,g⟩ _ _
        refine ⟨rfl,.inr ⟨rfl,rfl⟩,?_⟩
        obtain ⟨p1,p2⟩:c≤mid∧mid < d:=⟨g.2.1,g.2.2.1⟩
        have hm2:m2.length=l.length:=g.1.len.trans hPP.srt.len
        have hm1:IntKind.i64.wrap ((mid:Int)+1)=((mid+1:Nat):Int):=wrapN (by omega) (by omega)
        show AOb ((8:Int)≠0) _
        refine ⟨by decide,?_⟩
        show ABr _ _ _
        refine ⟨fun _=>?_,fun _=>?_⟩
        ·skip
         show ACall _ _ _ _ _ _
         refine .hand [(16,16)] (hp16 m2) [.c (.own 16),.int c,.int mid,.int _] _ (.cons _ _ _ _ (.c _ _ (.own _ _ rfl)) (.cons _ _ _ _ .same (.cons _ _ _ _ .same (.cons _ _ _ _ .same .nil)))) (.old 16 16 _ _ _ rfl rfl (.data_eq rfl) .nil) rfl (ih (mid - c) (by omega) m2 c mid _ (Nat.le_refl _) p1 (by omega) (g.low_left (hPP.low hlow hbl) (by omega) hcd)) ?_
         rintro H r ⟨rfl,m3,rfl,g1,g2⟩ _ _
         refine ⟨rfl,.inr ⟨rfl,rfl⟩,?_⟩
         show ARound _ _ _ _
         exact ⟨⟨(m3,mid+1,d,IntKind.i64.wrap (lim - 1),decide (IntKind.i64.wrap ((mid:Int) - (c:Int))≥IntKind.i64.wrap ((IntKind.i64.wrap ((d:Int) - (c:Int))).tdiv 8)),z),hPP.left hbl g g1 g2⟩,by show d - (mid+1) < d - c;omega,[(16,16)],.cons _ _ _ (.c _ _ (.own _ _ rfl)) (.cons _ _ _ (.int_eq hm1) (.cons _ _ _ .same (.cons _ _ _ .same (.cons _ _ _ .same (.cons _ _ _ .same .nil))))),.old 16 16 _ _ _ rfl rfl (.data_eq rfl) .nil,rfl⟩
        ·skip
         show ACall _ _ _ _ _ _
         refine .hand [(16,16)] (hp16 m2) [.c (.own 16),.int (mid+1:Nat),.int d,.int _] _ (.cons _ _ _ _ (.c _ _ (.own _ _ rfl)) (.cons _ _ _ _ (.int_eq hm1) (.cons _ _ _ _ .same (.cons _ _ _ _ .same .nil)))) (.old 16 16 _ _ _ rfl rfl (.data_eq rfl) .nil) rfl (ih (d - (mid+1)) (by omega) m2 (mid+1) d _ (Nat.le_refl _) (by omega) (by omega) g.low_right) ?_
         rintro H r ⟨rfl,m3,rfl,g1,g2⟩ _ _
         refine ⟨rfl,.inr ⟨rfl,rfl⟩,?_⟩
         show ARound _ _ _ _
         exact ⟨⟨(m3,c,mid,IntKind.i64.wrap (lim - 1),decide (IntKind.i64.wrap ((d:Int) - (mid:Int))≥IntKind.i64.wrap ((IntKind.i64.wrap ((d:Int) - (c:Int))).tdiv 8)),z),hPP.right hbl g g1 g2⟩,by show mid - (c) < d - c;omega,[(16,16)],.cons _ _ _ (.c _ _ (.own _ _ rfl)) (.cons _ _ _ .same (.cons _ _ _ .same (.cons _ _ _ .same (.cons _ _ _ .same (.cons _ _ _ .same .nil))))),.old 16 16 _ _ _ rfl rfl (.data_eq rfl) .nil,rfl⟩
      ·show ABr _ _ _
       refine ⟨fun hx=>absurd hx (by decide),fun _=>?_⟩
       show ACall _ _ _ _ _ _
       refine .hand [(16,16)] (hp16 mr) [.c (.own 16),.int c,.int d,.int ((d - 1 - (q - c)):Nat)] _ (.cons _ _ _ _ (.c _ _ (.own _ _ rfl)) (.cons _ _ _ _ .same (.cons _ _ _ _ .same (.cons _ _ _ _ (.int_eq hq2) .nil)))) (.old 16 16 _ _ _ rfl rfl (.data_eq rfl) .nil) rfl (part_spec mr c d (d - 1 - (q - c)) (by omega) (by omega) (by omega)) ?_
       rintro H r ⟨mid,z,m2,rfl,rfl,g⟩ _ _
       refine ⟨rfl,.inr ⟨rfl,rfl⟩,?_⟩
       obtain ⟨p1,p2⟩:c≤mid∧mid < d:=⟨g.2.1,g.2.2.1⟩
       have hm2:m2.length=l.length:=g.1.len.trans hPP.srt.len
       have hm1:IntKind.i64.wrap ((mid:Int)+1)=((mid+1:Nat):Int):=wrapN (by omega) (by omega)
       show AOb ((8:Int)≠0) _
       refine ⟨by decide,?_⟩
       show ABr _ _ _
       refine ⟨fun _=>?_,fun _=>?_⟩
       ·skip
        show ACall _ _ _ _ _ _
        refine .hand [(16,16)] (hp16 m2) [.c (.own 16),.int c,.int mid,.int _] _ (.cons _ _ _ _ (.c _ _ (.own _ _ rfl)) (.cons _ _ _ _ .same (.cons _ _ _ _ .same (.cons _ _ _ _ .same .nil)))) (.old 16 16 _ _ _ rfl rfl (.data_eq rfl) .nil) rfl (ih (mid - c) (by omega) m2 c mid _ (Nat.le_refl _) p1 (by omega) (g.low_left (hPP.low hlow hbl) (by omega) hcd)) ?_
        rintro H r ⟨rfl,m3,rfl,g1,g2⟩ _ _
        refine ⟨rfl,.inr ⟨rfl,rfl⟩,?_⟩
        show ARound _ _ _ _
        exact ⟨⟨(m3,mid+1,d,IntKind.i64.wrap (lim - 1),decide (IntKind.i64.wrap ((mid:Int) - (c:Int))≥IntKind.i64.wrap ((IntKind.i64.wrap ((d:Int) - (c:Int))).tdiv 8)),z),hPP.left hbl g g1 g2⟩,by show d - (mid+1) < d - c;omega,[(16,16)],.cons _ _ _ (.c _ _ (.own _ _ rfl)) (.cons _ _ _ (.int_eq hm1) (.cons _ _ _ .same (.cons _ _ _ .same (.cons _ _ _ .same (.cons _ _ _ .same .nil))))),.old 16 16 _ _ _ rfl rfl (.data_eq rfl) .nil,rfl⟩
       ·skip
        show ACall _ _ _ _ _ _
        refine .hand [(16,16)] (hp16 m2) [.c (.own 16),.int (mid+1:Nat),.int d,.int _] _ (.cons _ _ _ _ (.c _ _ (.own _ _ rfl)) (.cons _ _ _ _ (.int_eq hm1) (.cons _ _ _ _ .same (.cons _ _ _ _ .same .nil)))) (.old 16 16 _ _ _ rfl rfl (.data_eq rfl) .nil) rfl (ih (d - (mid+1)) (by omega) m2 (mid+1) d _ (Nat.le_refl _) (by omega) (by omega) g.low_right) ?_
        rintro H r ⟨rfl,m3,rfl,g1,g2⟩ _ _
        refine ⟨rfl,.inr ⟨rfl,rfl⟩,?_⟩
        show ARound _ _ _ _
        exact ⟨⟨(m3,c,mid,IntKind.i64.wrap (lim - 1),decide (IntKind.i64.wrap ((d:Int) - (mid:Int))≥IntKind.i64.wrap ((IntKind.i64.wrap ((d:Int) - (c:Int))).tdiv 8)),z),hPP.right hbl g g1 g2⟩,by show mid - (c) < d - c;omega,[(16,16)],.cons _ _ _ (.c _ _ (.own _ _ rfl)) (.cons _ _ _ .same (.cons _ _ _ .same (.cons _ _ _ .same (.cons _ _ _ .same (.cons _ _ _ .same .nil))))),.old 16 16 _ _ _ rfl rfl (.data_eq rfl) .nil,rfl⟩
     ·skip
      show ABr _ _ _
      refine ⟨fun hx=>absurd (show false=true from hx) (by decide),fun _=>?_⟩
      show ABr (decide ((c:Int) > 0)) _ _
      refine ⟨fun hx=>?_,fun hx=>?_⟩
      ·have hc0:0 < c:=by simp at hx;omega
       have hwc:IntKind.i64.wrap ((c:Int) - 1)=((c - 1:Nat):Int):=wrapN (by omega) (by omega)
       show AOb ((0:Int)≤IntKind.i64.wrap ((c:Int) - 1)∧IntKind.i64.wrap ((c:Int) - 1) < (mb.length:Int)) _
       refine ⟨by rw [hwc];omega,?_⟩
       show AOb ((IntKind.i64.wrap ((c:Int) - 1)).toNat < mb.length) _
       refine ⟨by rw [hwc];omega,?_⟩
       show AOb ((0:Int)≤(q:Int)∧(q:Int) < (mb.length:Int)) _
       refine ⟨by omega,?_⟩
       show AOb (((q:Int)).toNat < mb.length) _
       refine ⟨by omega,?_⟩
       have eq1:(IntKind.i64.wrap ((c:Int) - 1)).toNat=c - 1:=by rw [hwc];omega
       have eq2:((q:Int)).toNat=q:=by omega
       show ADCall _ _ _ _ _ _
       refine .mk [] _ (Less_spec (at0 mb (IntKind.i64.wrap ((c:Int) - 1)).toNat) (at0 mb ((q:Int)).toNat)) rfl ?_
       rw [eq1,eq2]
       show ABr (!decide (at0 mb (c - 1) < at0 mb q)) _ _
       refine ⟨fun hz=>?_,fun _=>?_⟩
       ·skip
        show ACall _ _ _ _ _ _
        refine .hand [(16,16)] (hp16 mb) [.c (.own 16),.int c,.int d,.int (q:Nat)] _ (.cons _ _ _ _ (.c _ _ (.own _ _ rfl)) (.cons _ _ _ _ .same (.cons _ _ _ _ .same (.cons _ _ _ _ .same .nil)))) (.old 16 16 _ _ _ rfl rfl (.data_eq rfl) .nil) rfl (partEq_spec mb c d q (by omega) (by omega) (by omega)) ?_
        rintro H r ⟨mid,m2,rfl,rfl,g⟩ _ _
        refine ⟨rfl,.inr ⟨rfl,rfl⟩,?_⟩
        show ARound _ _ _ _
        exact ⟨⟨(m2,mid,d,IntKind.i64.wrap (lim - 1),false,y),hPP.eq hbl ((hPP.low hlow hbl).piv hc0 (by simp at hz;omega)) g⟩,by have:=g.2.1;show d - mid < d - c;omega,[(16,16)],.cons _ _ _ (.c _ _ (.own _ _ rfl)) (.cons _ _ _ .same (.cons _ _ _ .same (.cons _ _ _ .same (.cons _ _ _ .same (.cons _ _ _ .same .nil))))),.old 16 16 _ _ _ rfl rfl (.data_eq rfl) .nil,rfl⟩
       ·skip
        show ACall _ _ _ _ _ _
        refine .hand [(16,16)] (hp16 mb) [.c (.own 16),.int c,.int d,.int (q:Nat)] _ (.cons _ _ _ _ (.c _ _ (.own _ _ rfl)) (.cons _ _ _ _ .same (.cons _ _ _ _ .same (.cons _ _ _ _ .same .nil)))) (.old 16 16 _ _ _ rfl rfl (.data_eq rfl) .nil) rfl (part_spec mb c d q (by omega) (by omega) (by omega)) ?_
        rintro H r ⟨mid,z,m2,rfl,rfl,g⟩ _ _
        refine ⟨rfl,.inr ⟨rfl,rfl⟩,?_⟩
        obtain ⟨p1,p2⟩:c≤mid∧mid < d:=⟨g.2.1,g.2.2.1⟩
        have hm2:m2.length=l.length:=g.1.len.trans hPP.srt.len
        have hm1:IntKind.i64.wrap ((mid:Int)+1)=((mid+1:Nat):Int):=wrapN (by omega) (by omega)
        show AOb ((8:Int)≠0) _
        refine ⟨by decide,?_⟩
        show ABr _ _ _
        refine ⟨fun _=>?_,fun _=>?_⟩
        ·skip
         show ACall _ _ _ _ _ _
         refine .hand [(16,16)] (hp16 m2) [.c (.own 16),.int c,.int mid,.int _] _ (.cons _ _ _ _ (.c _ _ (.own _ _ rfl)) (.cons _ _ _ _ .same (.cons _ _ _ _ .same (.cons _ _ _ _ .same .nil)))) (.old 16 16 _ _ _ rfl rfl (.data_eq rfl) .nil) rfl (ih (mid - c) (by omega) m2 c mid _ (Nat.le_refl _) p1 (by omega) (g.low_left (hPP.low hlow hbl) (by omega) hcd)) ?_
         rintro H r ⟨rfl,m3,rfl,g1,g2⟩ _ _
         refine ⟨rfl,.inr ⟨rfl,rfl⟩,?_⟩
         show ARound _ _ _ _
         exact ⟨⟨(m3,mid+1,d,IntKind.i64.wrap (lim - 1),decide (IntKind.i64.wrap ((mid:Int) - (c:Int))≥IntKind.i64.wrap ((IntKind.i64.wrap ((d:Int) - (c:Int))).tdiv 8)),z),hPP.left hbl g g1 g2⟩,by show d - (mid+1) < d - c;omega,[(16,16)],.cons _ _ _ (.c _ _ (.own _ _ rfl)) (.cons _ _ _ (.int_eq hm1) (.cons _ _ _ .same (.cons _ _ _ .same (.cons _ _ _ .same (.cons _ _ _ .same .nil))))),.old 16 16 _ _ _ rfl rfl (.data_eq rfl) .nil,rfl⟩
        ·skip
         show ACall _ _ _ _ _ _
         refine .hand [(16,16)] (hp16 m2) [.c (.own 16),.int (mid+1:Nat),.int d,.int _] _ (.cons _ _ _ _ (.c _ _ (.own _ _ rfl)) (.cons _ _ _ _ (.int_eq hm1) (.cons _ _ _ _ .same (.cons _ _ _ _ .same .nil)))) (.old 16 16 _ _ _ rfl rfl (.data_eq rfl) .nil) rfl (ih (d - (mid+1)) (by omega) m2 (mid+1) d _ (Nat.le_refl _) (by omega) (by omega) g.low_right) ?_
         rintro H r ⟨rfl,m3,rfl,g1,g2⟩ _ _
         refine ⟨rfl,.inr ⟨rfl,rfl⟩,?_⟩
         show ARound _ _ _ _
         exact ⟨⟨(m3,c,mid,IntKind.i64.wrap (lim - 1),decide (IntKind.i64.wrap ((d:Int) - (mid:Int))≥IntKind.i64.wrap ((IntKind.i64.wrap ((d:Int) - (c:Int))).tdiv 8)),z),hPP.right hbl g g1 g2⟩,by show mid - (c) < d - c;omega,[(16,16)],.cons _ _ _ (.c _ _ (.own _ _ rfl)) (.cons _ _ _ .same (.cons _ _ _ .same (.cons _ _ _ .same (.cons _ _ _ .same (.cons _ _ _ .same .nil))))),.old 16 16 _ _ _ rfl rfl (.data_eq rfl) .nil,rfl⟩
      ·show ABr _ _ _
       refine ⟨fun hx=>absurd hx (by decide),fun _=>?_⟩
       show ACall _ _ _ _ _ _
       refine .hand [(16,16)] (hp16 mb) [.c (.own 16),.int c,.int d,.int (q:Nat)] _ (.cons _ _ _ _ (.c _ _ (.own _ _ rfl)) (.cons _ _ _ _ .same (.cons _ _ _ _ .same (.cons _ _ _ _ .same .nil)))) (.old 16 16 _ _ _ rfl rfl (.data_eq rfl) .nil) rfl (part_spec mb c d q (by omega) (by omega) (by omega)) ?_
       rintro H r ⟨mid,z,m2,rfl,rfl,g⟩ _ _
       refine ⟨rfl,.inr ⟨rfl,rfl⟩,?_⟩
       obtain ⟨p1,p2⟩:c≤mid∧mid < d:=⟨g.2.1,g.2.2.1⟩
       have hm2:m2.length=l.length:=g.1.len.trans hPP.srt.len
       have hm1:IntKind.i64.wrap ((mid:Int)+1)=((mid+1:Nat):Int):=wrapN (by omega) (by omega)
       show AOb ((8:Int)≠0) _
       refine ⟨by decide,?_⟩
       show ABr _ _ _
       refine ⟨fun _=>?_,fun _=>?_⟩
       ·skip
        show ACall _ _ _ _ _ _
        refine .hand [(16,16)] (hp16 m2) [.c (.own 16),.int c,.int mid,.int _] _ (.cons _ _ _ _ (.c _ _ (.own _ _ rfl)) (.cons _ _ _ _ .same (.cons _ _ _ _ .same (.cons _ _ _ _ .same .nil)))) (.old 16 16 _ _ _ rfl rfl (.data_eq rfl) .nil) rfl (ih (mid - c) (by omega) m2 c mid _ (Nat.le_refl _) p1 (by omega) (g.low_left (hPP.low hlow hbl) (by omega) hcd)) ?_
        rintro H r ⟨rfl,m3,rfl,g1,g2⟩ _ _
        refine ⟨rfl,.inr ⟨rfl,rfl⟩,?_⟩
        show ARound _ _ _ _
        exact ⟨⟨(m3,mid+1,d,IntKind.i64.wrap (lim - 1),decide (IntKind.i64.wrap ((mid:Int) - (c:Int))≥IntKind.i64.wrap ((IntKind.i64.wrap ((d:Int) - (c:Int))).tdiv 8)),z),hPP.left hbl g g1 g2⟩,by show d - (mid+1) < d - c;omega,[(16,16)],.cons _ _ _ (.c _ _ (.own _ _ rfl)) (.cons _ _ _ (.int_eq hm1) (.cons _ _ _ .same (.cons _ _ _ .same (.cons _ _ _ .same (.cons _ _ _ .same .nil))))),.old 16 16 _ _ _ rfl rfl (.data_eq rfl) .nil,rfl⟩
       ·skip
        show ACall _ _ _ _ _ _
        refine .hand [(16,16)] (hp16 m2) [.c (.own 16),.int (mid+1:Nat),.int d,.int _] _ (.cons _ _ _ _ (.c _ _ (.own _ _ rfl)) (.cons _ _ _ _ (.int_eq hm1) (.cons _ _ _ _ .same (.cons _ _ _ _ .same .nil)))) (.old 16 16 _ _ _ rfl rfl (.data_eq rfl) .nil) rfl (ih (d - (mid+1)) (by omega) m2 (mid+1) d _ (Nat.le_refl _) (by omega) (by omega) g.low_right) ?_
        rintro H r ⟨rfl,m3,rfl,g1,g2⟩ _ _
        refine ⟨rfl,.inr ⟨rfl,rfl⟩,?_⟩
        show ARound _ _ _ _
        exact ⟨⟨(m3,c,mid,IntKind.i64.wrap (lim - 1),decide (IntKind.i64.wrap ((d:Int) - (mid:Int))≥IntKind.i64.wrap ((IntKind.i64.wrap ((d:Int) - (c:Int))).tdiv 8)),z),hPP.right hbl g g1 g2⟩,by show mid - (c) < d - c;omega,[(16,16)],.cons _ _ _ (.c _ _ (.own _ _ rfl)) (.cons _ _ _ .same (.cons _ _ _ .same (.cons _ _ _ .same (.cons _ _ _ .same (.cons _ _ _ .same .nil))))),.old 16 16 _ _ _ rfl rfl (.data_eq rfl) .nil,rfl⟩
    ·show ABr (!true) _ _
     refine ⟨fun hx=>absurd hx (by decide),fun _=>?_⟩
     have hPP:PQ l m a b c d:=hP
     have hmm:m.length=l.length:=hPP.srt.len
     show ACall _ _ _ _ _ _
     refine .hand [(16,16)] (hp16 m) [.c (.own 16),.int c,.int d] _ (.cons _ _ _ _ (.c _ _ (.own _ _ rfl)) (.cons _ _ _ _ .same (.cons _ _ _ _ .same .nil))) (.old 16 16 _ _ _ rfl rfl (.data_eq rfl) .nil) rfl (choosePivot_spec m c d h12 (by omega)) ?_
     rintro H r ⟨q,hint,rfl,rfl,q1,q2⟩ _ _
     refine ⟨rfl,.inr ⟨rfl,rfl⟩,?_⟩
     show ABr (decide (hint=2)) _ _
     refine ⟨fun _=>?_,fun _=>?_⟩
     ·skip
      show ACall _ _ _ _ _ _
      refine .hand [(16,16)] (hp16 m) [.c (.own 16),.int c,.int d] (SrtQ m c d) (.cons _ _ _ _ (.c _ _ (.own _ _ rfl)) (.cons _ _ _ _ .same (.cons _ _ _ _ .same .nil))) (.old 16 16 _ _ _ rfl rfl (.data_eq rfl) .nil) rfl (rev_spec m c d (by omega) (by omega)) ?_
      rintro H r ⟨rfl,mr,rfl,gr⟩ _ _
      refine ⟨rfl,.inr ⟨rfl,rfl⟩,?_⟩
      have hPP:PQ l mr a b c d:=hPP.mix hbl gr
      have hmm:mr.length=l.length:=hPP.srt.len
      have hd1:IntKind.i64.wrap ((d:Int) - 1)=((d - 1:Nat):Int):=wrapN (by omega) (by omega)
      have hqc:IntKind.i64.wrap ((q:Int) - (c:Int))=((q - c:Nat):Int):=wrapN (by omega) (by omega)
      have hq2:IntKind.i64.wrap (IntKind.i64.wrap ((d:Int) - 1) - IntKind.i64.wrap ((q:Int) - (c:Int)))=((d - 1 - (q - c):Nat):Int):=wrapN (by rw [hd1,hqc];omega) (by omega)
      show ABr _ _ _
      refine ⟨fun _=>?_,fun _=>?_⟩
      ·skip
       show ACall _ _ _ _ _ _
       refine .hand [(16,16)] (hp16 mr) [.c (.own 16),.int c,.int d] _ (.cons _ _ _ _ (.c _ _ (.own _ _ rfl)) (.cons _ _ _ _ .same (.cons _ _ _ _ .same .nil))) (.old 16 16 _ _ _ rfl rfl (.data_eq rfl) .nil) rfl (pins_spec mr c d (by omega) (by omega) (hPP.low hlow hbl)) ?_
       rintro H r ⟨v,mp,rfl,rfl,gp,gs⟩ _ _
       refine ⟨rfl,.inr ⟨rfl,rfl⟩,?_⟩
       have hPP:PQ l mp a b c d:=hPP.mix hbl gp
       have hmm:mp.length=l.length:=hPP.srt.len
       show ABr v _ _
       refine ⟨fun hv=>?_,fun _=>?_⟩
       ·skip
        show ARet _ _ _
        exact ⟨[(16,16)],hp16 mp,[],.nil,.old 16 16 _ _ _ rfl rfl (.data_eq rfl) .nil,rfl,rfl,mp,rfl,(hPP).srt,(hPP).done (gs hv)⟩
       ·skip
        show ABr (decide ((c:Int) > 0)) _ _
        refine ⟨fun hx=>?_,fun hx=>?_⟩
        ·have hc0:0 < c:=by simp at hx;omega
         have hwc:IntKind.i64.wrap ((c:Int) - 1)=((c - 1:Nat):Int):=wrapN (by omega) (by omega)
         show AOb ((0:Int)≤IntKind.i64.wrap ((c:Int) - 1)∧IntKind.i64.wrap ((c:Int) - 1) < (mp.length:Int)) _
         refine ⟨by rw [hwc];omega,?_⟩
         show AOb ((IntKind.i64.wrap ((c:Int) - 1)).toNat < mp.length) _
         refine ⟨by rw [hwc];omega,?_⟩
         show AOb ((0:Int)≤IntKind.i64.wrap (IntKind.i64.wrap ((d:Int) - 1) - IntKind.i64.wrap ((q:Int) - (c:Int)))∧IntKind.i64.wrap (IntKind.i64.wrap ((d:Int) - 1) - IntKind.i64.wrap ((q:Int) - (c:Int))) < (mp.length:Int)) _
         refine ⟨by rw [hq2];omega,?_⟩
         show AOb ((IntKind.i64.wrap (IntKind.i64.wrap ((d:Int) - 1) - IntKind.i64.wrap ((q:Int) - (c:Int)))).toNat < mp.length) _
         refine ⟨by rw [hq2];omega,?_⟩
         have eq1:(IntKind.i64.wrap ((c:Int) - 1)).toNat=c - 1:=by rw [hwc];omega
         have eq2:(IntKind.i64.wrap (IntKind.i64.wrap ((d:Int) - 1) - IntKind.i64.wrap ((q:Int) - (c:Int)))).toNat=(d - 1 - (q - c)):=by rw [hq2];omega
         show ADCall _ _ _ _ _ _
         refine .mk [] _ (Less_spec (at0 mp (IntKind.i64.wrap ((c:Int) - 1)).toNat) (at0 mp (IntKind.i64.wrap (IntKind.i64.wrap ((d:Int) - 1) - IntKind.i64.wrap ((q:Int) - (c:Int)))).toNat)) rfl ?_
         rw [eq1,eq2]
         show ABr (!decide (at0 mp (c - 1) < at0 mp (d - 1 - (q - c)))) _ _
         refine ⟨fun hz=>?_,fun _=>?_⟩
         ·skip
          show ACall _ _ _ _ _ _
          refine .hand [(16,16)] (hp16 mp) [.c (.own 16),.int c,.int d,.int ((d - 1 - (q - c)):Nat)] _ (.cons _ _ _ _ (.c _ _ (.own _ _ rfl)) (.cons _ _ _ _ .same (.cons _ _ _ _ .same (.cons _ _ _ _ (.int_eq hq2) .nil)))) (.old 16 16 _ _ _ rfl rfl (.data_eq rfl) .nil) rfl (partEq_spec mp c d (d - 1 - (q - c)) (by omega) (by omega) (by omega)) ?_
          rintro H r ⟨mid,m2,rfl,rfl,g⟩ _ _
          refine ⟨rfl,.inr ⟨rfl,rfl⟩,?_⟩
          show ARound _ _ _ _
          exact ⟨⟨(m2,mid,d,lim,true,y),hPP.eq hbl ((hPP.low hlow hbl).piv hc0 (by simp at hz;omega)) g⟩,by have:=g.2.1;show d - mid < d - c;omega,[(16,16)],.cons _ _ _ (.c _ _ (.own _ _ rfl)) (.cons _ _ _ .same (.cons _ _ _ .same (.cons _ _ _ .same (.cons _ _ _ .same (.cons _ _ _ .same .nil))))),.old 16 16 _ _ _ rfl rfl (.data_eq rfl) .nil,rfl⟩
         ·skip
          show ACall _ _ _ _ _ _
          refine .hand [(16,16)] (hp16 mp) [.c (.own 16),.int c,.int d,.int ((d - 1 - (q - c)):Nat)] _ (.cons _ _ _ _ (.c _ _ (.own _ _ rfl)) (.cons _ _ _ _ .same (.cons _ _ _ _ .same (.cons _ _ _ _ (.int_eq hq2) .nil)))) (.old 16 16 _ _ _ rfl rfl (.data_eq rfl) .nil) rfl (part_spec mp c d (d - 1 - (q - c)) (by omega) (by omega) (by omega)) ?_
          rintro H r ⟨mid,z,m2,rfl,rfl,g⟩ _ _
          refine ⟨rfl,.inr ⟨rfl,rfl⟩,?_⟩
          obtain ⟨p1,p2⟩:c≤mid∧mid < d:=⟨g.2.1,g.2.2.1⟩
          have hm2:m2.length=l.length:=g.1.len.trans hPP.srt.len
          have hm1:IntKind.i64.wrap ((mid:Int)+1)=((mid+1:Nat):Int):=wrapN (by omega) (by omega)
          show AOb ((8:Int)≠0) _
          refine ⟨by decide,?_⟩
          show ABr _ _ _
          refine ⟨fun _=>?_,fun _=>?_⟩
          ·skip
           show ACall _ _ _ _ _ _
           refine .hand [(16,16)] (hp16 m2) [.c (.own 16),.int c,.int mid,.int _] _ (.cons _ _ _ _ (.c _ _ (.own _ _ rfl)) (.cons _ _ _ _ .same (.cons _ _ _ _ .same (.cons _ _ _ _ .same .nil)))) (.old 16 16 _ _ _ rfl rfl (.data_eq rfl) .nil) rfl (ih (mid - c) (by omega) m2 c mid _ (Nat.le_refl _) p1 (by omega) (g.low_left (hPP.low hlow hbl) (by omega) hcd)) ?_
           rintro H r ⟨rfl,m3,rfl,g1,g2⟩ _ _
           refine ⟨rfl,.inr ⟨rfl,rfl⟩,?_⟩
           show ARound _ _ _ _
           exact ⟨⟨(m3,mid+1,d,lim,decide (IntKind.i64.wrap ((mid:Int) - (c:Int))≥IntKind.i64.wrap ((IntKind.i64.wrap ((d:Int) - (c:Int))).tdiv 8)),z),hPP.left hbl g g1 g2⟩,by show d - (mid+1) < d - c;omega,[(16,16)],.cons _ _ _ (.c _ _ (.own _ _ rfl)) (.cons _ _ _ (.int_eq hm1) (.cons _ _ _ .same (.cons _ _ _ .same (.cons _ _ _ .same (.cons _ _ _ .same .nil))))),.old 16 16 _ _ _ rfl rfl (.data_eq rfl) .nil,rfl⟩
          ·skip
           show ACall _ _ _ _ _ _
           refine .hand [(16,16)] (hp16 m2) [.c (.own 16),.int (mid+1:Nat),.int d,.int _] _ (.cons _ _ _ _ (.c _ _ (.own _ _ rfl)) (.cons _ _ _ _ (.int_eq hm1) (.cons _ _ _ _ .same (.cons _ _ _ _ .same .nil)))) (.old 16 16 _ _ _ rfl rfl (.data_eq rfl) .nil) rfl (ih (d - (mid+1)) (by omega) m2 (mid+1) d _ (Nat.le_refl _) (by omega) (by omega) g.low_right) ?_
           rintro H r ⟨rfl,m3,rfl,g1,g2⟩ _ _
           refine ⟨rfl,.inr ⟨rfl,rfl⟩,?_⟩
           show ARound _ _ _ _
           exact ⟨⟨(m3,c,mid,lim,decide (IntKind.i64.wrap ((d:Int) - (mid:Int))≥IntKind.i64.wrap ((IntKind.i64.wrap ((d:Int) - (c:Int))).tdiv 8)),z),hPP.right hbl g g1 g2⟩,by show mid - (c) < d - c;omega,[(16,16)],.cons _ _ _ (.c _ _ (.own _ _ rfl)) (.cons _ _ _ .same (.cons _ _ _ .same (.cons _ _ _ .same (.cons _ _ _ .same (.cons _ _ _ .same .nil))))),.old 16 16 _ _ _ rfl rfl (.data_eq rfl) .nil,rfl⟩
        ·show ABr _ _ _
         refine ⟨fun hx=>absurd hx (by decide),fun _=>?_⟩
         show ACall _ _ _ _ _ _
         refine .hand [(16,16)] (hp16 mp) [.c (.own 16),.int c,.int d,.int ((d - 1 - (q - c)):Nat)] _ (.cons _ _ _ _ (.c _ _ (.own _ _ rfl)) (.cons _ _ _ _ .same (.cons _ _ _ _ .same (.cons _ _ _ _ (.int_eq hq2) .nil)))) (.old 16 16 _ _ _ rfl rfl (.data_eq rfl) .nil) rfl (part_spec mp c d (d - 1 - (q - c)) (by omega) (by omega) (by omega)) ?_
         rintro H r ⟨mid,z,m2,rfl,rfl,g⟩ _ _
         refine ⟨rfl,.inr ⟨rfl,rfl⟩,?_⟩
         obtain ⟨p1,p2⟩:c≤mid∧mid < d:=⟨g.2.1,g.2.2.1⟩
         have hm2:m2.length=l.length:=g.1.len.trans hPP.srt.len
         have hm1:IntKind.i64.wrap ((mid:Int)+1)=((mid+1:Nat):Int):=wrapN (by omega) (by omega)
         show AOb ((8:Int)≠0) _
         refine ⟨by decide,?_⟩
         show ABr _ _ _
         refine ⟨fun _=>?_,fun _=>?_⟩
         ·skip
          show ACall _ _ _ _ _ _
          refine .hand [(16,16)] (hp16 m2) [.c (.own 16),.int c,.int mid,.int _] _ (.cons _ _ _ _ (.c _ _ (.own _ _ rfl)) (.cons _ _ _ _ .same (.cons _ _ _ _ .same (.cons _ _ _ _ .same .nil)))) (.old 16 16 _ _ _ rfl rfl (.data_eq rfl) .nil) rfl (ih (mid - c) (by omega) m2 c mid _ (Nat.le_refl _) p1 (by omega) (g.low_left (hPP.low hlow hbl) (by omega) hcd)) ?_
          rintro H r ⟨rfl,m3,rfl,g1,g2⟩ _ _
          refine ⟨rfl,.inr ⟨rfl,rfl⟩,?_⟩
          show ARound _ _ _ _
          exact ⟨⟨(m3,mid+1,d,lim,decide (IntKind.i64.wrap ((mid:Int) - (c:Int))≥IntKind.i64.wrap ((IntKind.i64.wrap ((d:Int) - (c:Int))).tdiv 8)),z),hPP.left hbl g g1 g2⟩,by show d - (mid+1) < d - c;omega,[(16,16)],.cons _ _ _ (.c _ _ (.own _ _ rfl)) (.cons _ _ _ (.int_eq hm1) (.cons _ _ _ .same (.cons _ _ _ .same (.cons _ _ _ .same (.cons _ _ _ .same .nil))))),.old 16 16 _ _ _ rfl rfl (.data_eq rfl) .nil,rfl⟩
         ·skip
          show ACall _ _ _ _ _ _
          refine .hand [(16,16)] (hp16 m2) [.c (.own 16),.int (mid+1:Nat),.int d,.int _] _ (.cons _ _ _ _ (.c _ _ (.own _ _ rfl)) (.cons _ _ _ _ (.int_eq hm1) (.cons _ _ _ _ .same (.cons _ _ _ _ .same .nil)))) (.old 16 16 _ _ _ rfl rfl (.data_eq rfl) .nil) rfl (ih (d - (mid+1)) (by omega) m2 (mid+1) d _ (Nat.le_refl _) (by omega) (by omega) g.low_right) ?_
          rintro H r ⟨rfl,m3,rfl,g1,g2⟩ _ _
          refine ⟨rfl,.inr ⟨rfl,rfl⟩,?_⟩
          show ARound _ _ _ _
          exact ⟨⟨(m3,c,mid,lim,decide (IntKind.i64.wrap ((d:Int) - (mid:Int))≥IntKind.i64.wrap ((IntKind.i64.wrap ((d:Int) - (c:Int))).tdiv 8)),z),hPP.right hbl g g1 g2⟩,by show mid - (c) < d - c;omega,[(16,16)],.cons _ _ _ (.c _ _ (.own _ _ rfl)) (.cons _ _ _ .same (.cons _ _ _ .same (.cons _ _ _ .same (.cons _ _ _ .same (.cons _ _ _ .same .nil))))),.old 16 16 _ _ _ rfl rfl (.data_eq rfl) .nil,rfl⟩
      ·skip
       show ABr (decide ((c:Int) > 0)) _ _
       refine ⟨fun hx=>?_,fun hx=>?_⟩
       ·have hc0:0 < c:=by simp at hx;omega
        have hwc:IntKind.i64.wrap ((c:Int) - 1)=((c - 1:Nat):Int):=wrapN (by omega) (by omega)
        show AOb ((0:Int)≤IntKind.i64.wrap ((c:Int) - 1)∧IntKind.i64.wrap ((c:Int) - 1) < (mr.length:Int)) _
        refine ⟨by rw [hwc];omega,?_⟩
        show AOb ((IntKind.i64.wrap ((c:Int) - 1)).toNat < mr.length) _
        refine ⟨by rw [hwc];omega,?_⟩
        show AOb ((0:Int)≤IntKind.i64.wrap (IntKind.i64.wrap ((d:Int) - 1) - IntKind.i64.wrap ((q:Int) - (c:Int)))∧IntKind.i64.wrap (IntKind.i64.wrap ((d:Int) - 1) - IntKind.i64.wrap ((q:Int) - (c:Int))) < (mr.length:Int)) _
        refine ⟨by rw [hq2];omega,?_⟩
        show AOb ((IntKind.i64.wrap (IntKind.i64.wrap ((d:Int) - 1) - IntKind.i64.wrap ((q:Int) - (c:Int)))).toNat < mr.length) _
        refine ⟨by rw [hq2];omega,?_⟩
        have eq1:(IntKind.i64.wrap ((c:Int) - 1)).toNat=c - 1:=by rw [hwc];omega
        have eq2:(IntKind.i64.wrap (IntKind.i64.wrap ((d:Int) - 1) - IntKind.i64.wrap ((q:Int) - (c:Int)))).toNat=(d - 1 - (q - c)):=by rw [hq2];omega
        show ADCall _ _ _ _ _ _
        refine .mk [] _ (Less_spec (at0 mr (IntKind.i64.wrap ((c:Int) - 1)).toNat) (at0 mr (IntKind.i64.wrap (IntKind.i64.wrap ((d:Int) - 1) - IntKind.i64.wrap ((q:Int) - (c:Int)))).toNat)) rfl ?_
        rw [eq1,eq2]
        show ABr (!decide (at0 mr (c - 1) < at0 mr (d - 1 - (q - c)))) _ _
        refine ⟨fun hz=>?_,fun _=>?_⟩
        ·skip
         show ACall _ _ _ _ _ _
         refine .hand [(16,16)] (hp16 mr) [.c (.own 16),.int c,.int d,.int ((d - 1 - (q - c)):Nat)] _ (.cons _ _ _ _ (.c _ _ (.own _ _ rfl)) (.cons _ _ _ _ .same (.cons _ _ _ _ .same (.cons _ _ _ _ (.int_eq hq2) .nil)))) (.old 16 16 _ _ _ rfl rfl (.data_eq rfl) .nil) rfl (partEq_spec mr c d (d - 1 - (q - c)) (by omega) (by omega) (by omega)) ?_
         rintro H r ⟨mid,m2,rfl,rfl,g⟩ _ _
         refine ⟨rfl,.inr ⟨rfl,rfl⟩,?_⟩
         show ARound _ _ _ _
         exact ⟨⟨(m2,mid,d,lim,true,y),hPP.eq hbl ((hPP.low hlow hbl).piv hc0 (by simp at hz;omega)) g⟩,by have:=g.2.1;show d - mid < d - c;omega,[(16,16)],.cons _ _ _ (.c _ _ (.own _ _ rfl)) (.cons _ _ _ .same (.cons _ _ _ .same (.cons _ _ _ .same (.cons _ _ _ .same (.cons _ _ _ .same .nil))))),.old 16 16 _ _ _ rfl rfl (.data_eq rfl) .nil,rfl⟩
        ·skip
         show ACall _ _ _ _ _ _
         refine .hand [(16,16)] (hp16 mr) [.c (.own 16),.int c,.int d,.int ((d - 1 - (q - c)):Nat)] _ (.cons _ _ _ _ (.c _ _ (.own _ _ rfl)) (.cons _ _ _ _ .same (.cons _ _ _ _ .same (.cons _ _ _ _ (.int_eq hq2) .nil)))) (.old 16 16 _ _ _ rfl rfl (.data_eq rfl) .nil) rfl (part_spec mr c d (d - 1 - (q - c)) (by omega) (by omega) (by omega)) ?_
         rintro H r ⟨mid,z,m2,rfl,rfl,g⟩ _ _
         refine ⟨rfl,.inr ⟨rfl,rfl⟩,?_⟩
         obtain ⟨p1,p2⟩:c≤mid∧mid < d:=⟨g.2.1,g.2.2.1⟩
         have hm2:m2.length=l.length:=g.1.len.trans hPP.srt.len
         have hm1:IntKind.i64.wrap ((mid:Int)+1)=((mid+1:Nat):Int):=wrapN (by omega) (by omega)
         show AOb ((8:Int)≠0) _
         refine ⟨by decide,?_⟩
         show ABr _ _ _
         refine ⟨fun _=>?_,fun _=>?_⟩
         ·skip
          show ACall _ _ _ _ _ _
          refine .hand [(16,16)] (hp16 m2) [.c (.own 16),.int c,.int mid,.int _] _ (.cons _ _ _ _ (.c _ _ (.own _ _ rfl)) (.cons _ _ _ _ .same (.cons _ _ _ _ .same (.cons _ _ _ _ .same .nil)))) (.old 16 16 _ _ _ rfl rfl (.data_eq rfl) .nil) rfl (ih (mid - c) (by omega) m2 c mid _ (Nat.le_refl _) p1 (by omega) (g.low_left (hPP.low hlow hbl) (by omega) hcd)) ?_
          rintro H r ⟨rfl,m3,rfl,g1,g2⟩ _ _
          refine ⟨rfl,.inr ⟨rfl,rfl⟩,?_⟩
          show ARound _ _ _ _
          exact ⟨⟨(m3,mid+1,d,lim,decide (IntKind.i64.wrap ((mid:Int) - (c:Int))≥IntKind.i64.wrap ((IntKind.i64.wrap ((d:Int) - (c:Int))).tdiv 8)),z),hPP.left hbl g g1 g2⟩,by show d - (mid+1) < d - c;omega,[(16,16)],.cons _ _ _ (.c _ _ (.own _ _ rfl)) (.cons _ _ _ (.int_eq hm1) (.cons _ _ _ .same (.cons _ _ _ .same (.cons _ _ _ .same (.cons _ _ _ .same .nil))))),.old 16 16 _ _ _ rfl rfl (.data_eq rfl) .nil,rfl⟩
         ·skip
          show ACall _ _ _ _ _ _
          refine .hand [(16,16)] (hp16 m2) [.c (.own 16),.int (mid+1:Nat),.int d,.int _] _ (.cons _ _ _ _ (.c _ _ (.own _ _ rfl)) (.cons _ _ _ _ (.int_eq hm1) (.cons _ _ _ _ .same (.cons _ _ _ _ .same .nil)))) (.old 16 16 _ _ _ rfl rfl (.data_eq rfl) .nil) rfl (ih (d - (mid+1)) (by omega) m2 (mid+1) d _ (Nat.le_refl _) (by omega) (by omega) g.low_right) ?_
          rintro H r ⟨rfl,m3,rfl,g1,g2⟩ _ _
          refine ⟨rfl,.inr ⟨rfl,rfl⟩,?_⟩
          show ARound _ _ _ _
          exact ⟨⟨(m3,c,mid,lim,decide (IntKind.i64.wrap ((d:Int) - (mid:Int))≥IntKind.i64.wrap ((IntKind.i64.wrap ((d:Int) - (c:Int))).tdiv 8)),z),hPP.right hbl g g1 g2⟩,by show mid - (c) < d - c;omega,[(16,16)],.cons _ _ _ (.c _ _ (.own _ _ rfl)) (.cons _ _ _ .same (.cons _ _ _ .same (.cons _ _ _ .same (.cons _ _ _ .same (.cons _ _ _ .same .nil))))),.old 16 16 _ _ _ rfl rfl (.data_eq rfl) .nil,rfl⟩
       ·show ABr _ _ _
        refine ⟨fun hx=>absurd hx (by decide),fun _=>?_⟩
        show ACall _ _ _ _ _ _
        refine .hand [(16,16)] (hp16 mr) [.c (.own 16),.int c,.int d,.int ((d - 1 - (q - c)):Nat)] _ (.cons _ _ _ _ (.c _ _ (.own _ _ rfl)) (.cons _ _ _ _ .same (.cons _ _ _ _ .same (.cons _ _ _ _ (.int_eq hq2) .nil)))) (.old 16 16 _ _ _ rfl rfl (.data_eq rfl) .nil) rfl (part_spec mr c d (d - 1 - (q - c)) (by omega) (by omega) (by omega)) ?_
        rintro H r ⟨mid,z,m2,rfl,rfl,g⟩ _ _
        refine ⟨rfl,.inr ⟨rfl,rfl⟩,?_⟩
        obtain ⟨p1,p2⟩:c≤mid∧mid < d:=⟨g.2.1,g.2.2.1⟩
        have hm2:m2.length=l.length:=g.1.len.trans hPP.srt.len
        have hm1:IntKind.i64.wrap ((mid:Int)+1)=((mid+1:Nat):Int):=wrapN (by omega) (by omega)
        show AOb ((8:Int)≠0) _
        refine ⟨by decide,?_⟩
        show ABr _ _ _
        refine ⟨fun _=>?_,fun _=>?_⟩
        ·skip
         show ACall _ _ _ _ _ _
         refine .hand [(16,16)] (hp16 m2) [.c (.own 16),.int c,.int mid,.int _] _ (.cons _ _ _ _ (.c _ _ (.own _ _ rfl)) (.cons _ _ _ _ .same (.cons _ _ _ _ .same (.cons _ _ _ _ .same .nil)))) (.old 16 16 _ _ _ rfl rfl (.data_eq rfl) .nil) rfl (ih (mid - c) (by omega) m2 c mid _ (Nat.le_refl _) p1 (by omega) (g.low_left (hPP.low hlow hbl) (by omega) hcd)) ?_
         rintro H r ⟨rfl,m3,rfl,g1,g2⟩ _ _
         refine ⟨rfl,.inr ⟨rfl,rfl⟩,?_⟩
         show ARound _ _ _ _
         exact ⟨⟨(m3,mid+1,d,lim,decide (IntKind.i64.wrap ((mid:Int) - (c:Int))≥IntKind.i64.wrap ((IntKind.i64.wrap ((d:Int) - (c:Int))).tdiv 8)),z),hPP.left hbl g g1 g2⟩,by show d - (mid+1) < d - c;omega,[(16,16)],.cons _ _ _ (.c _ _ (.own _ _ rfl)) (.cons _ _ _ (.int_eq hm1) (.cons _ _ _ .same (.cons _ _ _ .same (.cons _ _ _ .same (.cons _ _ _ .same .nil))))),.old 16 16 _ _ _ rfl rfl (.data_eq rfl) .nil,rfl⟩
        ·skip
         show ACall _ _ _ _ _ _
         refine .hand [(16,16)] (hp16 m2) [.c (.own 16),.int (mid+1:Nat),.int d,.int _] _ (.cons _ _ _ _ (.c _ _ (.own _ _ rfl)) (.cons _ _ _ _ (.int_eq hm1) (.cons _ _ _ _ .same (.cons _ _ _ _ .same .nil)))) (.old 16 16 _ _ _ rfl rfl (.data_eq rfl) .nil) rfl (ih (d - (mid+1)) (by omega) m2 (mid+1) d _ (Nat.le_refl _) (by omega) (by omega) g.low_right) ?_
         rintro H r ⟨rfl,m3,rfl,g1,g2⟩ _ _
         refine ⟨rfl,.inr ⟨rfl,rfl⟩,?_⟩
         show ARound _ _ _ _
         exact ⟨⟨(m3,c,mid,lim,decide (IntKind.i64.wrap ((d:Int) - (mid:Int))≥IntKind.i64.wrap ((IntKind.i64.wrap ((d:Int) - (c:Int))).tdiv 8)),z),hPP.right hbl g g1 g2⟩,by show mid - (c) < d - c;omega,[(16,16)],.cons _ _ _ (.c _ _ (.own _ _ rfl)) (.cons _ _ _ .same (.cons _ _ _ .same (.cons _ _ _ .same (.cons _ _ _ .same (.cons _ _ _ .same .nil))))),.old 16 16 _ _ _ rfl rfl (.data_eq rfl) .nil,rfl⟩
     ·skip
      show ABr _ _ _
      refine ⟨fun _=>?_,fun _=>?_⟩
      ·skip
       show ACall _ _ _ _ _ _
       refine .hand [(16,16)] (hp16 m) [.c (.own 16),.int c,.int d] _ (.cons _ _ _ _ (.c _ _ (.own _ _ rfl)) (.cons _ _ _ _ .same (.cons _ _ _ _ .same .nil))) (.old 16 16 _ _ _ rfl rfl (.data_eq rfl) .nil) rfl (pins_spec m c d (by omega) (by omega) (hPP.low hlow hbl)) ?_
       rintro H r ⟨v,mp,rfl,rfl,gp,gs⟩ _ _
       refine ⟨rfl,.inr ⟨rfl,rfl⟩,?_⟩
       have hPP:PQ l mp a b c d:=hPP.mix hbl gp
       have hmm:mp.length=l.length:=hPP.srt.len
       show ABr v _ _
       refine ⟨fun hv=>?_,fun _=>?_⟩
       ·skip
        show ARet _ _ _
        exact ⟨[(16,16)],hp16 mp,[],.nil,.old 16 16 _ _ _ rfl rfl (.data_eq rfl) .nil,rfl,rfl,mp,rfl,(hPP).srt,(hPP).done (gs hv)⟩
       ·skip
        show ABr (decide ((c:Int) > 0)) _ _
        refine ⟨fun hx=>?_,fun hx=>?_⟩
        ·have hc0:0 < c:=by simp at hx;omega
         have hwc:IntKind.i64.wrap ((c:Int) - 1)=((c - 1:Nat):Int):=wrapN (by omega) (by omega)
         show AOb ((0:Int)≤IntKind.i64.wrap ((c:Int) - 1)∧IntKind.i64.wrap ((c:Int) - 1) < (mp.length:Int)) _
         refine ⟨by rw [hwc];omega,?_⟩
         show AOb ((IntKind.i64.wrap ((c:Int) - 1)).toNat < mp.length) _
         refine ⟨by rw [hwc];omega,?_⟩
         show AOb ((0:Int)≤(q:Int)∧(q:Int) < (mp.length:Int)) _
         refine ⟨by omega,?_⟩
         show AOb (((q:Int)).toNat < mp.length) _
         refine ⟨by omega,?_⟩
         have eq1:(IntKind.i64.wrap ((c:Int) - 1)).toNat=c - 1:=by rw [hwc];omega
         have eq2:((q:Int)).toNat=q:=by omega
         show ADCall _ _ _ _ _ _
         refine .mk [] _ (Less_spec (at0 mp (IntKind.i64.wrap ((c:Int) - 1)).toNat) (at0 mp ((q:Int)).toNat)) rfl ?_
         rw [eq1,eq2]
         show ABr (!decide (at0 mp (c - 1) < at0 mp q)) _ _
         refine ⟨fun hz=>?_,fun _=>?_⟩
         ·skip
          show ACall _ _ _ _ _ _
          refine .hand [(16,16)] (hp16 mp) [.c (.own 16),.int c,.int d,.int (q:Nat)] _ (.cons _ _ _ _ (.c _ _ (.own _ _ rfl)) (.cons _ _ _ _ .same (.cons _ _ _ _ .same (.cons _ _ _ _ .same .nil)))) (.old 16 16 _ _ _ rfl rfl (.data_eq rfl) .nil) rfl (partEq_spec mp c d q (by omega) (by omega) (by omega)) ?_
          rintro H r ⟨mid,m2,rfl,rfl,g⟩ _ _
          refine ⟨rfl,.inr ⟨rfl,rfl⟩,?_⟩
          show ARound _ _ _ _
          exact ⟨⟨(m2,mid,d,lim,true,y),hPP.eq hbl ((hPP.low hlow hbl).piv hc0 (by simp at hz;omega)) g⟩,by have:=g.2.1;show d - mid < d - c;omega,[(16,16)],.cons _ _ _ (.c _ _ (.own _ _ rfl)) (.cons _ _ _ .same (.cons _ _ _ .same (.cons _ _ _ .same (.cons _ _ _ .same (.cons _ _ _ .same .nil))))),.old 16 16 _ _ _ rfl rfl (.data_eq rfl) .nil,rfl⟩
         ·skip
          show ACall _ _ _ _ _ _
          refine .hand [(16,16)] (hp16 mp) [.c (.own 16),.int c,.int d,.int (q:Nat)] _ (.cons _ _ _ _ (.c _ _ (.own _ _ rfl)) (.cons _ _ _ _ .same (.cons _ _ _ _ .same (.cons _ _ _ _ .same .nil)))) (.old 16 16 _ _ _ rfl rfl (.data_eq rfl) .nil) rfl (part_spec mp c d q (by omega) (by omega) (by omega)) ?_
          rintro H r ⟨mid,z,m2,rfl,rfl,g⟩ _ _
          refine ⟨rfl,.inr ⟨rfl,rfl⟩,?_⟩
          obtain ⟨p1,p2⟩:c≤mid∧mid < d:=⟨g.2.1,g.2.2.1⟩
          have hm2:m2.length=l.length:=g.1.len.trans hPP.srt.len
          have hm1:IntKind.i64.wrap ((mid:Int)+1)=((mid+1:Nat):Int):=wrapN (by omega) (by omega)
          show AOb ((8:Int)≠0) _
          refine ⟨by decide,?_⟩
          show ABr _ _ _
          refine ⟨fun _=>?_,fun _=>?_⟩
          ·skip
           show ACall _ _ _ _ _ _
           refine .hand [(16,16)] (hp16 m2) [.c (.own 16),.int c,.int mid,.int _] _ (.cons _ _ _ _ (.c _ _ (.own _ _ rfl)) (.cons _ _ _ _ .same (.cons _ _ _ _ .same (.cons _ _ _ _ .same .nil)))) (.old 16 16 _ _ _ rfl rfl (.data_eq rfl) .nil) rfl (ih (mid - c) (by omega) m2 c mid _ (Nat.le_refl _) p1 (by omega) (g.low_left (hPP.low hlow hbl) (by omega) hcd)) ?_
           rintro H r ⟨rfl,m3,rfl,g1,g2⟩ _ _
           refine ⟨rfl,.inr ⟨rfl,rfl⟩,?_⟩
           show ARound _ _ _ _
           exact ⟨⟨(m3,mid+1,d,lim,decide (IntKind.i64.wrap ((mid:Int) - (c:Int))≥IntKind.i64.wrap ((IntKind.i64.wrap ((d:Int) - (c:Int))).tdiv 8)),z),hPP.left hbl g g1 g2⟩,by show d - (mid+1) < d - c;omega,[(16,16)],.cons _ _ _ (.c _ _ (.own _ _ rfl)) (.cons _ _ _ (.int_eq hm1) (.cons _ _ _ .same (.cons _ _ _ .same (.cons _ _ _ .same (.cons _ _ _ .same .nil))))),.old 16 16 _ _ _ rfl rfl (.data_eq rfl) .nil,rfl⟩
          ·skip
           show ACall _ _ _ _ _ _
           refine .hand [(16,16)] (hp16 m2) [.c (.own 16),.int (mid+1:Nat),.int d,.int _] _ (.cons _ _ _ _ (.c _ _ (.own _ _ rfl)) (.cons _ _ _ _ (.int_eq hm1) (.cons _ _ _ _ .same (.cons _ _ _ _ .same .nil)))) (.old 16 16 _ _ _ rfl rfl (.data_eq rfl) .nil) rfl (ih (d - (mid+1)) (by omega) m2 (mid+1) d _ (Nat.le_refl _) (by omega) (by omega) g.low_right) ?_
           rintro H r ⟨rfl,m3,rfl,g1,g2⟩ _ _
           refine ⟨rfl,.inr ⟨rfl,rfl⟩,?_⟩
           show ARound _ _ _ _
           exact ⟨⟨(m3,c,mid,lim,decide (IntKind.i64.wrap ((d:Int) - (mid:Int))≥IntKind.i64.wrap ((IntKind.i64.wrap ((d:Int) - (c:Int))).tdiv 8)),z),hPP.right hbl g g1 g2⟩,by show mid - (c) < d - c;omega,[(16,16)],.cons _ _ _ (.c _ _ (.own _ _ rfl)) (.cons _ _ _ .same (.cons _ _ _ .same (.cons _ _ _ .same (.cons _ _ _ .same (.cons _ _ _ .same .nil))))),.old 16 16 _ _ _ rfl rfl (.data_eq rfl) .nil,rfl⟩
        ·show ABr _ _ _
         refine ⟨fun hx=>absurd hx (by decide),fun _=>?_⟩
         show ACall _ _ _ _ _ _
         refine .hand [(16,16)] (hp16 mp) [.c (.own 16),.int c,.int d,.int (q:Nat)] _ (.cons _ _ _ _ (.c _ _ (.own _ _ rfl)) (.cons _ _ _ _ .same (.cons _ _ _ _ .same (.cons _ _ _ _ .same .nil)))) (.old 16 16 _ _ _ rfl rfl (.data_eq rfl) .nil) rfl (part_spec mp c d q (by omega) (by omega) (by omega)) ?_
         rintro H r ⟨mid,z,m2,rfl,rfl,g⟩ _ _
         refine ⟨rfl,.inr ⟨rfl,rfl⟩,?_⟩
         obtain ⟨p1,p2⟩:c≤mid∧mid < d:=⟨g.2.1,g.2.2.1⟩
         have hm2:m2.length=l.length:=g.1.len.trans hPP.srt.len
         have hm1:IntKind.i64.wrap ((mid:Int)+1)=((mid+1:Nat):Int):=wrapN (by omega) (by omega)
         show AOb ((8:Int)≠0) _
         refine ⟨by decide,?_⟩
         show ABr _ _ _
         refine ⟨fun _=>?_,fun _=>?_⟩
         ·skip
          show ACall _ _ _ _ _ _
          refine .hand [(16,16)] (hp16 m2) [.c (.own 16),.int c,.int mid,.int _] _ (.cons _ _ _ _ (.c _ _ (.own _ _ rfl)) (.cons _ _ _ _ .same (.cons _ _ _ _ .same (.cons _ _ _ _ .same .nil)))) (.old 16 16 _ _ _ rfl rfl (.data_eq rfl) .nil) rfl (ih (mid - c) (by omega) m2 c mid _ (Nat.le_refl _) p1 (by omega) (g.low_left (hPP.low hlow hbl) (by omega) hcd)) ?_
          rintro H r ⟨rfl,m3,rfl,g1,g2⟩ _ _
          refine ⟨rfl,.inr ⟨rfl,rfl⟩,?_⟩
          show ARound _ _ _ _
          exact ⟨⟨(m3,mid+1,d,lim,decide (IntKind.i64.wrap ((mid:Int) - (c:Int))≥IntKind.i64.wrap ((IntKind.i64.wrap ((d:Int) - (c:Int))).tdiv 8)),z),hPP.left hbl g g1 g2⟩,by show d - (mid+1) < d - c;omega,[(16,16)],.cons _ _ _ (.c _ _ (.own _ _ rfl)) (.cons _ _ _ (.int_eq hm1) (.cons _ _ _ .same (.cons _ _ _ .same (.cons _ _ _ .same (.cons _ _ _ .same .nil))))),.old 16 16 _ _ _ rfl rfl (.data_eq rfl) .nil,rfl⟩
         ·skip
          show ACall _ _ _ _ _ _
          refine .hand [(16,16)] (hp16 m2) [.c (.own 16),.int (mid+1:Nat),.int d,.int _] _ (.cons _ _ _ _ (.c _ _ (.own _ _ rfl)) (.cons _ _ _ _ (.int_eq hm1) (.cons _ _ _ _ .same (.cons _ _ _ _ .same .nil)))) (.old 16 16 _ _ _ rfl rfl (.data_eq rfl) .nil) rfl (ih (d - (mid+1)) (by omega) m2 (mid+1) d _ (Nat.le_refl _) (by omega) (by omega) g.low_right) ?_
          rintro H r ⟨rfl,m3,rfl,g1,g2⟩ _ _
          refine ⟨rfl,.inr ⟨rfl,rfl⟩,?_⟩
          show ARound _ _ _ _
          exact ⟨⟨(m3,c,mid,lim,decide (IntKind.i64.wrap ((d:Int) - (mid:Int))≥IntKind.i64.wrap ((IntKind.i64.wrap ((d:Int) - (c:Int))).tdiv 8)),z),hPP.right hbl g g1 g2⟩,by show mid - (c) < d - c;omega,[(16,16)],.cons _ _ _ (.c _ _ (.own _ _ rfl)) (.cons _ _ _ .same (.cons _ _ _ .same (.cons _ _ _ .same (.cons _ _ _ .same (.cons _ _ _ .same .nil))))),.old 16 16 _ _ _ rfl rfl (.data_eq rfl) .nil,rfl⟩
      ·skip
       show ABr (decide ((c:Int) > 0)) _ _
       refine ⟨fun hx=>?_,fun hx=>?_⟩
       ·have hc0:0 < c:=by simp at hx;omega
        have hwc:IntKind.i64.wrap ((c:Int) - 1)=((c - 1:Nat):Int):=wrapN (by omega) (by omega)
        show AOb ((0:Int)≤IntKind.i64.wrap ((c:Int) - 1)∧IntKind.i64.wrap ((c:Int) - 1) < (m.length:Int)) _
        refine ⟨by rw [hwc];omega,?_⟩
        show AOb ((IntKind.i64.wrap ((c:Int) - 1)).toNat < m.length) _
        refine ⟨by rw [hwc];omega,?_⟩
        show AOb ((0:Int)≤(q:Int)∧(q:Int) < (m.length:Int)) _
        refine ⟨by omega,?_⟩
        show AOb (((q:Int)).toNat < m.length) _
        refine ⟨by omega,?_⟩
        have eq1:(IntKind.i64.wrap ((c:Int) - 1)).toNat=c - 1:=by rw [hwc];omega
        have eq2:((q:Int)).toNat=q:=by omega
        show ADCall _ _ _ _ _ _
        refine .mk [] _ (Less_spec (at0 m (IntKind.i64.wrap ((c:Int) - 1)).toNat) (at0 m ((q:Int)).toNat)) rfl ?_
        rw [eq1,eq2]
        show ABr (!decide (at0 m (c - 1) < at0 m q)) _ _
        refine ⟨fun hz=>?_,fun _=>?_⟩
        ·skip
         show ACall _ _ _ _ _ _
         refine .hand [(16,16)] (hp16 m) [.c (.own 16),.int c,.int d,.int (q:Nat)] _ (.cons _ _ _ _ (.c _ _ (.own _ _ rfl)) (.cons _ _ _ _ .same (.cons _ _ _ _ .same (.cons _ _ _ _ .same .nil)))) (.old 16 16 _ _ _ rfl rfl (.data_eq rfl) .nil) rfl (partEq_spec m c d q (by omega) (by omega) (by omega)) ?_
         rintro H r ⟨mid,m2,rfl,rfl,g⟩ _ _
         refine ⟨rfl,.inr ⟨rfl,rfl⟩,?_⟩
         show ARound _ _ _ _
         exact ⟨⟨(m2,mid,d,lim,true,y),hPP.eq hbl ((hPP.low hlow hbl).piv hc0 (by simp at hz;omega)) g⟩,by have:=g.2.1;show d - mid < d - c;omega,[(16,16)],.cons _ _ _ (.c _ _ (.own _ _ rfl)) (.cons _ _ _ .same (.cons _ _ _ .same (.cons _ _ _ .same (.cons _ _ _ .same (.cons _ _ _ .same .nil))))),.old 16 16 _ _ _ rfl rfl (.data_eq rfl) .nil,rfl⟩
        ·skip
         show ACall _ _ _ _ _ _
         refine .hand [(16,16)] (hp16 m) [.c (.own 16),.int c,.int d,.int (q:Nat)] _ (.cons _ _ _ _ (.c _ _ (.own _ _ rfl)) (.cons _ _ _ _ .same (.cons _ _ _ _ .same (.cons _ _ _ _ .same .nil)))) (.old 16 16 _ _ _ rfl rfl (.data_eq rfl) .nil) rfl (part_spec m c d q (by omega) (by omega) (by omega)) ?_
         rintro H r ⟨mid,z,m2,rfl,rfl,g⟩ _ _
         refine ⟨rfl,.inr ⟨rfl,rfl⟩,?_⟩
         obtain ⟨p1,p2⟩:c≤mid∧mid < d:=⟨g.2.1,g.2.2.1⟩
         have hm2:m2.length=l.length:=g.1.len.trans hPP.srt.len
         have hm1:IntKind.i64.wrap ((mid:Int)+1)=((mid+1:Nat):Int):=wrapN (by omega) (by omega)
         show AOb ((8:Int)≠0) _
         refine ⟨by decide,?_⟩
         show ABr _ _ _
         refine ⟨fun _=>?_,fun _=>?_⟩
         ·skip
          show ACall _ _ _ _ _ _
          refine .hand [(16,16)] (hp16 m2) [.c (.own 16),.int c,.int mid,.int _] _ (.cons _ _ _ _ (.c _ _ (.own _ _ rfl)) (.cons _ _ _ _ .same (.cons _ _ _ _ .same (.cons _ _ _ _ .same .nil)))) (.old 16 16 _ _ _ rfl rfl (.data_eq rfl) .nil) rfl (ih (mid - c) (by omega) m2 c mid _ (Nat.le_refl _) p1 (by omega) (g.low_left (hPP.low hlow hbl) (by omega) hcd)) ?_
          rintro H r ⟨rfl,m3,rfl,g1,g2⟩ _ _
          refine ⟨rfl,.inr ⟨rfl,rfl⟩,?_⟩
          show ARound _ _ _ _
          exact ⟨⟨(m3,mid+1,d,lim,decide (IntKind.i64.wrap ((mid:Int) - (c:Int))≥IntKind.i64.wrap ((IntKind.i64.wrap ((d:Int) - (c:Int))).tdiv 8)),z),hPP.left hbl g g1 g2⟩,by show d - (mid+1) < d - c;omega,[(16,16)],.cons _ _ _ (.c _ _ (.own _ _ rfl)) (.cons _ _ _ (.int_eq hm1) (.cons _ _ _ .same (.cons _ _ _ .same (.cons _ _ _ .same (.cons _ _ _ .same .nil))))),.old 16 16 _ _ _ rfl rfl (.data_eq rfl) .nil,rfl⟩
         ·skip
          show ACall _ _ _ _ _ _
          refine .hand [(16,16)] (hp16 m2) [.c (.own 16),.int (mid+1:Nat),.int d,.int _] _ (.cons _ _ _ _ (.c _ _ (.own _ _ rfl)) (.cons _ _ _ _ (.int_eq hm1) (.cons _ _ _ _ .same (.cons _ _ _ _ .same .nil)))) (.old 16 16 _ _ _ rfl rfl (.data_eq rfl) .nil) rfl (ih (d - (mid+1)) (by omega) m2 (mid+1) d _ (Nat.le_refl _) (by omega) (by omega) g.low_right) ?_
          rintro H r ⟨rfl,m3,rfl,g1,g2⟩ _ _
          refine ⟨rfl,.inr ⟨rfl,rfl⟩,?_⟩
          show ARound _ _ _ _
          exact ⟨⟨(m3,c,mid,lim,decide (IntKind.i64.wrap ((d:Int) - (mid:Int))≥IntKind.i64.wrap ((IntKind.i64.wrap ((d:Int) - (c:Int))).tdiv 8)),z),hPP.right hbl g g1 g2⟩,by show mid - (c) < d - c;omega,[(16,16)],.cons _ _ _ (.c _ _ (.own _ _ rfl)) (.cons _ _ _ .same (.cons _ _ _ .same (.cons _ _ _ .same (.cons _ _ _ .same (.cons _ _ _ .same .nil))))),.old 16 16 _ _ _ rfl rfl (.data_eq rfl) .nil,rfl⟩
       ·show ABr _ _ _
        refine ⟨fun hx=>absurd hx (by decide),fun _=>?_⟩
        show ACall _ _ _ _ _ _
        refine .hand [(16,16)] (hp16 m) [.c (.own 16),.int c,.int d,.int (q:Nat)] _ (.cons _ _ _ _ (.c _ _ (.own _ _ rfl)) (.cons _ _ _ _ .same (.cons _ _ _ _ .same (.cons _ _ _ _ .same .nil)))) (.old 16 16 _ _ _ rfl rfl (.data_eq rfl) .nil) rfl (part_spec m c d q (by omega) (by omega) (by omega)) ?_
        rintro H r ⟨mid,z,m2,rfl,rfl,g⟩ _ _
        refine ⟨rfl,.inr ⟨rfl,rfl⟩,?_⟩
        obtain ⟨p1,p2⟩:c≤mid∧mid < d:=⟨g.2.1,g.2.2.1⟩
        have hm2:m2.length=l.length:=g.1.len.trans hPP.srt.len
        have hm1:IntKind.i64.wrap ((mid:Int)+1)=((mid+1:Nat):Int):=wrapN (by omega) (by omega)
        show AOb ((8:Int)≠0) _
        refine ⟨by decide,?_⟩
        show ABr _ _ _
        refine ⟨fun _=>?_,fun _=>?_⟩
        ·skip
         show ACall _ _ _ _ _ _
         refine .hand [(16,16)] (hp16 m2) [.c (.own 16),.int c,.int mid,.int _] _ (.cons _ _ _ _ (.c _ _ (.own _ _ rfl)) (.cons _ _ _ _ .same (.cons _ _ _ _ .same (.cons _ _ _ _ .same .nil)))) (.old 16 16 _ _ _ rfl rfl (.data_eq rfl) .nil) rfl (ih (mid - c) (by omega) m2 c mid _ (Nat.le_refl _) p1 (by omega) (g.low_left (hPP.low hlow hbl) (by omega) hcd)) ?_
         rintro H r ⟨rfl,m3,rfl,g1,g2⟩ _ _
         refine ⟨rfl,.inr ⟨rfl,rfl⟩,?_⟩
         show ARound _ _ _ _
         exact ⟨⟨(m3,mid+1,d,lim,decide (IntKind.i64.wrap ((mid:Int) - (c:Int))≥IntKind.i64.wrap ((IntKind.i64.wrap ((d:Int) - (c:Int))).tdiv 8)),z),hPP.left hbl g g1 g2⟩,by show d - (mid+1) < d - c;omega,[(16,16)],.cons _ _ _ (.c _ _ (.own _ _ rfl)) (.cons _ _ _ (.int_eq hm1) (.cons _ _ _ .same (.cons _ _ _ .same (.cons _ _ _ .same (.cons _ _ _ .same .nil))))),.old 16 16 _ _ _ rfl rfl (.data_eq rfl) .nil,rfl⟩
        ·skip
         show ACall _ _ _ _ _ _
         refine .hand [(16,16)] (hp16 m2) [.c (.own 16),.int (mid+1:Nat),.int d,.int _] _ (.cons _ _ _ _ (.c _ _ (.own _ _ rfl)) (.cons _ _ _ _ (.int_eq hm1) (.cons _ _ _ _ .same (.cons _ _ _ _ .same .nil)))) (.old 16 16 _ _ _ rfl rfl (.data_eq rfl) .nil) rfl (ih (d - (mid+1)) (by omega) m2 (mid+1) d _ (Nat.le_refl _) (by omega) (by omega) g.low_right) ?_
         rintro H r ⟨rfl,m3,rfl,g1,g2⟩ _ _
         refine ⟨rfl,.inr ⟨rfl,rfl⟩,?_⟩
         show ARound _ _ _ _
         exact ⟨⟨(m3,c,mid,lim,decide (IntKind.i64.wrap ((d:Int) - (mid:Int))≥IntKind.i64.wrap ((IntKind.i64.wrap ((d:Int) - (c:Int))).tdiv 8)),z),hPP.right hbl g g1 g2⟩,by show mid - (c) < d - c;omega,[(16,16)],.cons _ _ _ (.c _ _ (.own _ _ rfl)) (.cons _ _ _ .same (.cons _ _ _ .same (.cons _ _ _ .same (.cons _ _ _ .same (.cons _ _ _ .same .nil))))),.old 16 16 _ _ _ rfl rfl (.data_eq rfl) .nil,rfl⟩
theorem Sort_spec (l:List Int):Spec X 108 (hp16 l) [.c (.own 16)] (SortQ l 0 l.length):=by
 refine spec_go X_ok Tryz.f108 (by kernel_rfl) (by kernel_rfl) (by kernel_rfl) fun hb hH=>⟨rfl,?_⟩
 show ACall _ _ _ _ _ _
 refine .mk _ (Len_spec (IntKind.u64.wrap l.length) (u64_wrap _).1 (u64_wrap _).2) ?_
 rintro H r ⟨rfl,n,_,_,rfl⟩ _ _
 refine ⟨.inl rfl,?_⟩
 show ACall _ _ _ _ _ _
 refine .hand [(16,16)] (hp16 l) [.c (.own 16),.int (0:Nat),.int l.length,.int n] (SortQ l 0 l.length) (.cons _ _ _ _ (.c _ _ (.own _ _ rfl)) (.cons _ _ _ _ .same (.cons _ _ _ _ .same (.cons _ _ _ _ .same .nil)))) (.old 16 16 _ _ _ rfl rfl (.data_eq rfl) .nil) rfl (pdq_all l.length l 0 l.length n (by omega) (Nat.zero_le _) (Nat.le_refl _) (fun h=>absurd h (Nat.lt_irrefl 0))) ?_
 rintro H r ⟨rfl,l',rfl,h1,h2⟩ _ _
 refine ⟨rfl,.inr ⟨rfl,rfl⟩,?_⟩
 show ARet _ _ _
 exact ⟨[(16,16)],hp16 l',[],.nil,.old 16 16 _ _ _ rfl rfl (.data_eq rfl) .nil,rfl,rfl,l',rfl,h1,h2⟩
end Go.Abs
