/- Walks: the document's heaps of one's own; a head is set; a new heap. -/
import Derived.Test.YtpkngagppfoccaaGreatDoorWRef07
import Derived.Test.YtpkngagppfoccaaGreatDoorWShade
import Derived.Test.YtpkngagppfoccaaGreatDoorWSame07
set_option linter.all false
set_option linter.unusedVariables false
set_option linter.unusedSimpArgs false
namespace Go.Abs
open Go.Proofs Go.Proofs.YtpkngagppfoccaaGreatDoor
set_option maxRecDepth 8000

/-- A heap whose words, pages and cards are rows of one's own. -/
def Hp.owned (g : Hp) : TV := .agg [.own 0, .own 1, .d (.sl .int g.free.l0), .d (.sl .int g.free.l1), .d (.sl .int g.free.l2), .own 2]
def Hp.rows (g : Hp) : Heap := [(0, .data .int g.w), (1, .data .page g.pages), (2, .data .bool g.cards)]

theorem rOwn7_spec (g : Hp) (hs : g.small) : Spec X 11 [] [g.tv] (Ret g.rows g.owned) := by
  refine spec_go X_ok Tryz.f11 (by kernel_rfl) (by kernel_rfl) (by kernel_rfl) fun hb hH => ⟨rfl, ?_⟩
  obtain ⟨h1, h2, h3, h4, h5, h6⟩ := hs
  show ACall _ _ _ _ _ _
  refine call_ret (rOwn_spec g.free ⟨h4, h5, h6⟩) rfl ?_
  show AOb (g.w.length ≤ most) _
  refine ⟨h1, ?_⟩
  show AOb (g.pages.length ≤ most) _
  refine ⟨h2, ?_⟩
  show AOb (g.cards.length ≤ most) _
  refine ⟨h3, ?_⟩
  show ARet _ _ _
  exact ⟨[(416, 0), (640, 1), (864, 2)], g.rows, [g.owned], .cons _ _ _ _ (.agg _ _ (.cons _ _ _ _ (.own _ _ rfl) (.cons _ _ _ _ (.own _ _ rfl) (.cons _ _ _ _ (.d _) (.cons _ _ _ _ (.d _) (.cons _ _ _ _ (.d _) (.cons _ _ _ _ (.own _ _ rfl) .nil))))))) .nil, .old 0 416 _ _ _ rfl rfl (.data_eq rfl) (.old 1 640 _ _ _ rfl rfl (.data_eq rfl) (.old 2 864 _ _ _ rfl rfl (.data_eq rfl) .nil)), rfl, rfl, rfl⟩


theorem rWord_spec (x : Hd) (hx : x.May) (hu : x.used = true) : Spec X 75 [] [x.tv] (Ret [] (.int x.word)) := by
  refine spec_go X_ok Tryz.f75 (by kernel_rfl) (by kernel_rfl) (by kernel_rfl) fun hb hH => ⟨rfl, ?_⟩
  obtain ⟨u, o, d, n, b, m⟩ := x
  have hu : u = true := hu
  subst hu
  obtain ⟨⟨n1, n2⟩, ⟨b1, b2⟩, m1, m2⟩ := may_range hx
  simp only at n1 n2 b1 b2 m1 m2
  have w1 : IntKind.i64.wrap (8 * n) = 8 * n := wrap64 (by omega) (by omega)
  have w2 : IntKind.i64.wrap (1 + 8 * n) = 1 + 8 * n := wrap64 (by omega) (by omega)
  have w3 : IntKind.i64.wrap (1024 * b) = 1024 * b := wrap64 (by omega) (by omega)
  have w4 : IntKind.i64.wrap (1 + 8 * n + 1024 * b) = 1 + 8 * n + 1024 * b := wrap64 (by omega) (by omega)
  have w5 : IntKind.i64.wrap (4294967296 * m) = 4294967296 * m := wrap64 (by omega) (by omega)
  have w6 : IntKind.i64.wrap (1 + 8 * n + 1024 * b + 4294967296 * m) = 1 + 8 * n + 1024 * b + 4294967296 * m := wrap64 (by omega) (by omega)
  show ABr _ _ _
  refine ⟨fun h => absurd h (by simp), fun _ => ?_⟩
  show ABr o _ _
  refine ⟨fun h => ?_, fun h => ?_⟩
  · subst h
    show ABr d _ _
    refine ⟨fun h => ?_, fun h => ?_⟩
    · subst h
      show ARet _ _ _
      refine ret_int (x := (IntKind.i64.wrap (IntKind.i64.wrap (IntKind.i64.wrap (IntKind.i64.wrap (IntKind.i64.wrap (1+IntKind.i64.wrap (8*n))+IntKind.i64.wrap (1024*b))+IntKind.i64.wrap (4294967296*m))+2)+4))) ?_ ⟨rfl, rfl⟩
      rw [w1, w2, w3, w4, w5, w6]
      try rw [wrap64 (n := 1 + 8 * n + 1024 * b + 4294967296 * m + 2) (by omega) (by omega)]
      try rw [wrap64 (n := 1 + 8 * n + 1024 * b + 4294967296 * m + 4) (by omega) (by omega)]
      try rw [wrap64 (n := 1 + 8 * n + 1024 * b + 4294967296 * m + 2 + 4) (by omega) (by omega)]
      unfold Hd.word
      simp only [b2i]
      simp <;> omega
    · subst h
      show ARet _ _ _
      refine ret_int (x := (IntKind.i64.wrap (IntKind.i64.wrap (IntKind.i64.wrap (IntKind.i64.wrap (1+IntKind.i64.wrap (8*n))+IntKind.i64.wrap (1024*b))+IntKind.i64.wrap (4294967296*m))+2))) ?_ ⟨rfl, rfl⟩
      rw [w1, w2, w3, w4, w5, w6]
      try rw [wrap64 (n := 1 + 8 * n + 1024 * b + 4294967296 * m + 2) (by omega) (by omega)]
      try rw [wrap64 (n := 1 + 8 * n + 1024 * b + 4294967296 * m + 4) (by omega) (by omega)]
      try rw [wrap64 (n := 1 + 8 * n + 1024 * b + 4294967296 * m + 2 + 4) (by omega) (by omega)]
      unfold Hd.word
      simp only [b2i]
      simp <;> omega
  · subst h
    show ABr d _ _
    refine ⟨fun h => ?_, fun h => ?_⟩
    · subst h
      show ARet _ _ _
      refine ret_int (x := (IntKind.i64.wrap (IntKind.i64.wrap (IntKind.i64.wrap (IntKind.i64.wrap (1+IntKind.i64.wrap (8*n))+IntKind.i64.wrap (1024*b))+IntKind.i64.wrap (4294967296*m))+4))) ?_ ⟨rfl, rfl⟩
      rw [w1, w2, w3, w4, w5, w6]
      try rw [wrap64 (n := 1 + 8 * n + 1024 * b + 4294967296 * m + 2) (by omega) (by omega)]
      try rw [wrap64 (n := 1 + 8 * n + 1024 * b + 4294967296 * m + 4) (by omega) (by omega)]
      try rw [wrap64 (n := 1 + 8 * n + 1024 * b + 4294967296 * m + 2 + 4) (by omega) (by omega)]
      unfold Hd.word
      simp only [b2i]
      simp <;> omega
    · subst h
      show ARet _ _ _
      refine ret_int (x := (IntKind.i64.wrap (IntKind.i64.wrap (IntKind.i64.wrap (1+IntKind.i64.wrap (8*n))+IntKind.i64.wrap (1024*b))+IntKind.i64.wrap (4294967296*m)))) ?_ ⟨rfl, rfl⟩
      rw [w1, w2, w3, w4, w5, w6]
      try rw [wrap64 (n := 1 + 8 * n + 1024 * b + 4294967296 * m + 2) (by omega) (by omega)]
      try rw [wrap64 (n := 1 + 8 * n + 1024 * b + 4294967296 * m + 4) (by omega) (by omega)]
      try rw [wrap64 (n := 1 + 8 * n + 1024 * b + 4294967296 * m + 2 + 4) (by omega) (by omega)]
      unfold Hd.word
      simp only [b2i]
      simp <;> omega

end Go.Abs
