/- Lists, threads, the collector: read. -/
import Derived.Test.YtlknhkocpjjkdaaAbsOpen2
set_option linter.all false
set_option linter.unusedVariables false
set_option linter.unusedSimpArgs false
namespace Go.Abs
open Go.ChangeShapes Go.WideShapes Go.RowKit

section
variable {X : Ctx} {w : World}

theorem Rd.listsX (hX : XOk X) {t e i : Nat} (hk : (X.ty t).k = .arr 3 e) (hs : (X.ty t).size = 3) (he : (X.ty e).k = .slc i) (heo : (X.ty e).ok = true) (hes : (X.ty e).size = 1) (hi : (X.ty i).k = .int .i64) (hio : (X.ty i).ok = true) (his : (X.ty i).size = 1) (hib : Nat.ble 1 (X.ty i).bytes = true) :
    Rd X.P w t (fun cs => ∃ y : Lists, RepL no w (EK.lists.enc y) cs) := by
  have f (j : Nat) (h : j < 3) := Rd.elemX (w := w) hX hk heo j h (Rd.ints hX he hi hio his hib)
  refine Rd.mono (Rd.and (Rd.lenAX hX hk) (Rd.and (f 0 (by decide)) (Rd.and (f 1 (by decide)) (f 2 (by decide))))) ?_
  rintro cs ⟨hl, ⟨l0, v0, h0, r0⟩, ⟨l1, v1, h1, r1⟩, ⟨l2, v2, h2, r2⟩⟩
  rw [hs] at hl
  rw [hes] at h0 h1 h2
  match cs, hl with
  | [c0, c1, c2], _ =>
    have e0 := one_of h0; have e1 := one_of h1; have e2 := one_of h2
    simp at e0 e1 e2
    subst e0 e1 e2
    exact ⟨⟨l0, l1, l2⟩, repL_cons r0 (repL_cons r1 (repL_cons r2 repL_nil))⟩

theorem Rd.arr4X (hX : XOk X) {t i : Nat} (hk : (X.ty t).k = .arr 4 i) (hs : (X.ty t).size = 4) (hi : (X.ty i).k = .int .i64) (hio : (X.ty i).ok = true) (his : (X.ty i).size = 1) :
    Rd X.P w t (fun cs => ∃ a b c d : Int, cs = [.int .i64 a, .int .i64 b, .int .i64 c, .int .i64 d]) := by
  have f (j : Nat) (h : j < 4) := Rd.elemX (w := w) hX hk hio j h (Rd.intX hX hi)
  refine Rd.mono (Rd.and (Rd.lenAX hX hk) (Rd.and (f 0 (by decide)) (Rd.and (f 1 (by decide)) (Rd.and (f 2 (by decide)) (f 3 (by decide)))))) ?_
  rintro cs ⟨hl, ⟨a, h0, _⟩, ⟨b, h1, _⟩, ⟨c, h2, _⟩, ⟨d, h3, _⟩⟩
  rw [hs] at hl
  rw [his] at h0 h1 h2 h3
  match cs, hl with
  | [c0, c1, c2, c3], _ =>
    have e0 := one_of h0; have e1 := one_of h1; have e2 := one_of h2; have e3 := one_of h3
    simp at e0 e1 e2 e3
    subst e0 e1 e2 e3
    exact ⟨a, b, c, d, rfl⟩

/-- The types of a thread, in the table. -/
structure ThreadT (X : Ctx) (t b r i l o op : Nat) : Prop where
  hk : (X.ty t).k = .st [(0, b), (1, r), (5, l), (8, i), (9, i), (10, i), (11, o), (12, i), (13, i), (14, i)]
  hs : (X.ty t).size = 15
  hb : (X.ty b).k = .bool
  hbs : (X.ty b).size = 1
  hbo : (X.ty b).ok = true
  hi : (X.ty i).k = .int .i64
  his : (X.ty i).size = 1
  hio : (X.ty i).ok = true
  hib : Nat.ble 1 (X.ty i).bytes = true
  hr : (X.ty r).k = .arr 4 i
  hrs : (X.ty r).size = 4
  hro : (X.ty r).ok = true
  ho : (X.ty o).k = .slc op
  hos : (X.ty o).size = 1
  hoo : (X.ty o).ok = true
  hop : (X.ty op).k = .st [(0, i), (1, i), (2, i), (3, i)]
  hops : (X.ty op).size = 4
  hopo : (X.ty op).ok = true
  hopb : Nat.ble 1 (X.ty op).bytes = true

theorem Rd.threadX (hX : XOk X) {t b r i l o op e : Nat} (T : ThreadT X t b r i l o op) (hl : (X.ty l).k = .arr 3 e) (hls : (X.ty l).size = 3) (hlo : (X.ty l).ok = true) (he : (X.ty e).k = .slc i) (heo : (X.ty e).ok = true) (hes : (X.ty e).size = 1) :
    Rd X.P w t (fun cs => ∃ y : Thread, RepL no w (EK.thread.enc y) cs) := by
  have fi (j k : Nat) (h : lnth [(0, b), (1, r), (5, l), (8, i), (9, i), (10, i), (11, o), (12, i), (13, i), (14, i)] j = some (k, i)) := Rd.fieldX (w := w) hX T.hk j h T.hio (Rd.intX hX T.hi)
  have fb := Rd.fieldX (w := w) hX T.hk 0 (o := 0) (u := b) rfl T.hbo (Rd.boolX hX T.hb)
  have fr := Rd.fieldX (w := w) hX T.hk 1 (o := 1) (u := r) rfl T.hro (Rd.arr4X hX T.hr T.hrs T.hi T.hio T.his)
  have fl := Rd.fieldX (w := w) hX T.hk 2 (o := 5) (u := l) rfl hlo (Rd.listsX hX hl hls he heo hes T.hi T.hio T.his T.hib)
  have fo := Rd.fieldX (w := w) hX T.hk 6 (o := 11) (u := o) rfl T.hoo (Rd.sliceX hX .op T.ho T.hopo T.hops T.hopb (Rd.opX hX T.hop T.hops T.hi T.hio))
  refine Rd.mono (Rd.and (Rd.lenX hX T.hk) (Rd.and fb (Rd.and fr (Rd.and fl (Rd.and fo (Rd.and (fi 3 8 rfl) (Rd.and (fi 4 9 rfl) (Rd.and (fi 5 10 rfl) (Rd.and (fi 7 12 rfl) (Rd.and (fi 8 13 rfl) (fi 9 14 rfl))))))))))) ?_
  rintro cs ⟨hlen, ⟨live, g0⟩, ⟨r0, r1, r2, r3, g1⟩, ⟨cache, g2⟩, ⟨ops, ov, g3, g4⟩, ⟨ep, g5, _⟩, ⟨st, g6, _⟩, ⟨ro, g7, _⟩, ⟨pc, g8, _⟩, ⟨x, g9, _⟩, ⟨y, g10, _⟩⟩
  rw [T.hs] at hlen
  rw [T.hbs] at g0
  rw [T.hrs] at g1
  rw [hls] at g2
  rw [T.hos] at g3
  rw [T.his] at g5 g6 g7 g8 g9 g10
  match cs, hlen with
  | [c0, c1, c2, c3, c4, c5, c6, c7, c8, c9, c10, c11, c12, c13, c14], _ =>
    have e0 := one_of g0
    have e3 := one_of g3; have e5 := one_of g5; have e6 := one_of g6; have e7 := one_of g7; have e8 := one_of g8; have e9 := one_of g9; have e10 := one_of g10
    simp at e0 e3 e5 e6 e7 e8 e9 e10 g1 g2
    obtain ⟨q1, q2, q3, q4⟩ := g1
    subst e0 e3 e5 e6 e7 e8 e9 e10 q1 q2 q3 q4
    exact ⟨⟨live, r0, r1, r2, r3, cache, ep, st, ro, ops, pc, x, y⟩, repL_cons (rep_b _) (repL_cons (rep_i _) (repL_cons (rep_i _) (repL_cons (rep_i _) (repL_cons (rep_i _) (repL_append g2
      (repL_cons (rep_i _) (repL_cons (rep_i _) (repL_cons (rep_i _) (repL_cons g4 (repL_cons (rep_i _) (repL_cons (rep_i _) (repL_cons (rep_i _) repL_nil))))))))))))⟩

theorem Rd.colX (hX : XOk X) {t b i sl : Nat} (hk : (X.ty t).k = .st [(0, i), (1, i), (2, b), (3, sl), (4, b), (5, i), (6, i), (7, i), (8, i), (9, b)]) (hs : (X.ty t).size = 10) (hb : (X.ty b).k = .bool) (hbs : (X.ty b).size = 1) (hbo : (X.ty b).ok = true)
    (hi : (X.ty i).k = .int .i64) (his : (X.ty i).size = 1) (hio : (X.ty i).ok = true) (hib : Nat.ble 1 (X.ty i).bytes = true) (hsl : (X.ty sl).k = .slc i) (hsls : (X.ty sl).size = 1) (hslo : (X.ty sl).ok = true) :
    Rd X.P w t (fun cs => ∃ y : Col, RepL no w y.enc cs) := by
  have fi (j k : Nat) (h : lnth [(0, i), (1, i), (2, b), (3, sl), (4, b), (5, i), (6, i), (7, i), (8, i), (9, b)] j = some (k, i)) := Rd.fieldX (w := w) hX hk j h hio (Rd.intX hX hi)
  have fb (j k : Nat) (h : lnth [(0, i), (1, i), (2, b), (3, sl), (4, b), (5, i), (6, i), (7, i), (8, i), (9, b)] j = some (k, b)) := Rd.fieldX (w := w) hX hk j h hbo (Rd.boolX hX hb)
  have fs := Rd.fieldX (w := w) hX hk 3 (o := 3) (u := sl) rfl hslo (Rd.ints hX hsl hi hio his hib)
  refine Rd.mono (Rd.and (Rd.lenX hX hk) (Rd.and (fi 0 0 rfl) (Rd.and (fi 1 1 rfl) (Rd.and (fb 2 2 rfl) (Rd.and fs (Rd.and (fb 4 4 rfl) (Rd.and (fi 5 5 rfl) (Rd.and (fi 6 6 rfl) (Rd.and (fi 7 7 rfl) (Rd.and (fi 8 8 rfl) (fb 9 9 rfl))))))))))) ?_
  rintro cs ⟨hlen, ⟨a0, g0, _⟩, ⟨a1, g1, _⟩, ⟨a2, g2⟩, ⟨a3, v3, g3, r3⟩, ⟨a4, g4⟩, ⟨a5, g5, _⟩, ⟨a6, g6, _⟩, ⟨a7, g7, _⟩, ⟨a8, g8, _⟩, ⟨a9, g9⟩⟩
  rw [hs] at hlen
  rw [his] at g0 g1 g5 g6 g7 g8
  rw [hbs] at g2 g4 g9
  rw [hsls] at g3
  match cs, hlen with
  | [c0, c1, c2, c3, c4, c5, c6, c7, c8, c9], _ =>
    have e0 := one_of g0; have e1 := one_of g1; have e2 := one_of g2; have e3 := one_of g3; have e4 := one_of g4
    have e5 := one_of g5; have e6 := one_of g6; have e7 := one_of g7; have e8 := one_of g8; have e9 := one_of g9
    simp at e0 e1 e2 e3 e4 e5 e6 e7 e8 e9
    subst e0 e1 e2 e3 e4 e5 e6 e7 e8 e9
    exact ⟨⟨a0, a1, a2, a3, a4, a5, a6, a7, a8, a9⟩, repL_cons (rep_i _) (repL_cons (rep_i _) (repL_cons (rep_b _) (repL_cons r3 (repL_cons (rep_b _) (repL_cons (rep_i _) (repL_cons (rep_i _) (repL_cons (rep_i _) (repL_cons (rep_i _) (repL_cons (rep_b _) repL_nil)))))))))⟩

end
end Go.Abs
