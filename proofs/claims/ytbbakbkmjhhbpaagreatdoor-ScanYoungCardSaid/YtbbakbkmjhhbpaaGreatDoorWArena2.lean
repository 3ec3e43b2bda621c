/- Walks: a word is got. -/
import Derived.Test.YtbbakbkmjhhbpaaGreatDoorWTraceK
set_option linter.all false
set_option linter.unusedVariables false
set_option linter.unusedSimpArgs false
namespace Go.Abs
open Go.Proofs Go.Proofs.YtbbakbkmjhhbpaaGreatDoor
set_option maxRecDepth 8000

theorem Marks.light {g k : Hp} (h : Marks g k) (hl : g.light) : k.light := by unfold Hp.light; rw [h.free]; exact hl
theorem Marks.small {g k : Hp} (h : Marks g k) (hs : g.small) : k.small := by unfold Hp.small; rw [h.free, h.pages, h.cards, h.len]; exact hs

theorem part1_spec (w : List Int) (a : Int) (hw : mayW w = true) (ha : 16 ≤ a ∧ a < 16 + w.length) : Spec X 94 [] [.c (.d (.sl .int w)), .int a, .int 1] (Ret [] (.tup [.c (.d (.sl .int ((w.drop (a - 16).toNat).take 1))), .int 0])) := by
  refine spec_go X_ok Tryz.f94 (by kernel_rfl) (by kernel_rfl) (by kernel_rfl) fun hb hH => ⟨rfl, ?_⟩
  show ACall _ _ _ _ _ _
  refine call_ret (aMay_spec w) rfl ?_
  rw [hw]
  show ABr (!true) _ _
  show ABr _ _ _
  refine ⟨fun h => absurd h (by decide), fun _ => ?_⟩
  show ABr _ _ _
  refine ⟨fun h => absurd h (by decide), fun _ => ?_⟩
  have h1 : w.length ≤ 1024 := by have := of_decide_eq_true hw; omega
  have e1 : IntKind.i64.wrap (a - 16) = a - 16 := wrap64 (by omega) (by omega)
  have e2 : IntKind.i64.wrap ((w.length : Int) - (a - 16)) = w.length - (a - 16) := wrap64 (by omega) (by omega)
  show ABr (bif decide ((1 : Int) > 0) then (bif (bif decide (a < 16) then true else decide (IntKind.i64.wrap (a - 16) ≥ (w.length : Int))) then true else decide ((1 : Int) > IntKind.i64.wrap ((w.length : Int) - IntKind.i64.wrap (a - 16)))) else false) _ _
  rw [e1, e2]
  refine ⟨fun h => ?_, fun _ => ?_⟩
  · exfalso
    have g1 : decide (a < 16) = false := decide_eq_false (by omega)
    have g2 : decide (a - 16 ≥ (w.length : Int)) = false := decide_eq_false (by omega)
    have g3 : decide ((1 : Int) > (w.length : Int) - (a - 16)) = false := decide_eq_false (by omega)
    rw [g1, g2, g3] at h
    exact absurd h (by decide)
  · show ABr _ _ _
    refine ⟨fun h => absurd h (by decide), fun _ => ?_⟩
    show AOb ((0 : Int) ≤ IntKind.i64.wrap (a - 16) ∧ IntKind.i64.wrap (a - 16) ≤ (w.length : Int)) _
    rw [e1]
    refine ⟨by omega, ?_⟩
    have hdl : (w.drop (a - 16).toNat).length = w.length - (a - 16).toNat := List.length_drop
    show AOb ((0 : Int) ≤ 1 ∧ (1 : Int) ≤ 1 ∧ (1 : Int) ≤ (((w.drop (a - 16).toNat).length : Nat) : Int)) _
    refine ⟨by omega, ?_⟩
    show ARet _ _ _
    exact ret_d rfl ⟨rfl, rfl⟩

theorem aGet_spec (w : List Int) (a : Int) (hw : mayW w = true) (ha : 16 ≤ a ∧ a < 16 + w.length) : Spec X 62 [] [.c (.d (.sl .int w)), .int a] (Ret [] (.tup [.int (at0 w (a - 16).toNat), .int 0])) := by
  refine spec_go X_ok Tryz.f62 (by kernel_rfl) (by kernel_rfl) (by kernel_rfl) fun hb hH => ⟨rfl, ?_⟩
  show ACall _ _ _ _ _ _
  refine call_ret (part1_spec w a hw ha) rfl ?_
  have hdl : ((w.drop (a - 16).toNat).take 1).length = 1 := by rw [List.length_take, List.length_drop]; omega
  show ABr _ _ _
  refine ⟨fun h => absurd h (by decide), fun _ => ?_⟩
  show AOb ((0 : Int) ≤ 0 ∧ (0 : Int) < ((((w.drop (a - 16).toNat).take 1).length : Nat) : Int)) _
  refine ⟨by omega, ?_⟩
  have hv : ((w.drop (a - 16).toNat).take 1).getD 0 default = at0 w (a - 16).toNat := by
    unfold at0
    simp [List.getD_eq_getElem?_getD]
  show ARet _ _ _
  exact ⟨[], [], [.int (at0 w (a - 16).toNat), .int 0], .cons _ _ _ _ (.int_eq hv) (.cons _ _ _ _ .same .nil), .nil, rfl, rfl, rfl⟩

/-- A field of an object, as the statements read it. -/
theorem field_get {g : Hp} {u : Int} {f : Nat} (h0 : headE g u = 0) (hf : ((f + 1 : Nat) : Int) ≤ (headH g u).n) :
    IntKind.i64.wrap (IntKind.i64.wrap (u + ((f + 1 : Nat) : Int)) - 16) = u + ((f + 1 : Nat) : Int) - 16 ∧ 0 ≤ u + ((f + 1 : Nat) : Int) - 16 ∧ u + ((f + 1 : Nat) : Int) - 16 < (g.w.length : Int) := by
  obtain ⟨hm, _, _⟩ := headE_of h0
  obtain ⟨hmw, _, hlen, _, _, h64⟩ := shapedH_of (mayH_shaped hm)
  obtain ⟨⟨a1, a2⟩, _⟩ := field_adr (f := ((f + 1 : Nat) : Int)) h0 (by omega) hf
  have w1 : IntKind.i64.wrap (u + ((f + 1 : Nat) : Int)) = u + ((f + 1 : Nat) : Int) := wrap64 (by omega) (by omega)
  have w2 : IntKind.i64.wrap (u + ((f + 1 : Nat) : Int) - 16) = u + ((f + 1 : Nat) : Int) - 16 := wrap64 (by omega) (by omega)
  rw [w1, w2]
  exact ⟨rfl, by omega, by omega⟩

theorem put64 {g : Hp} (h : ∀ x ∈ g.w, I64 x) (a : Int) {v : Int} (hv : I64 v) : ∀ x ∈ (putH g a v).w, I64 x := by
  intro x hx
  rcases List.mem_or_eq_of_mem_set hx with e | e
  · exact h x e
  · rw [e]; exact hv
theorem word64 {x : Hd} (h : x.May) : I64 x.word := by
  have := word_range h
  unfold I64
  omega
theorem shade64 {g : Hp} (h : ∀ x ∈ g.w, I64 x) (c : Col) (a : Int) : ∀ x ∈ (shadeG g c a).w, I64 x := by
  unfold shadeG
  by_cases e : atK g c a = 1
  · rw [decide_eq_true e]
    obtain ⟨_, h1, h2⟩ := mark_may e
    show ∀ x ∈ (setH g a (markH g c a)).w, I64 x
    rw [setH_yes h2]
    exact put64 h a (word64 h1.xmay)
  · rw [decide_eq_false e]; exact h
theorem black64 {g : Hp} (h : ∀ x ∈ g.w, I64 x) (c : Col) (a : Int) : ∀ x ∈ (blackG g c a).w, I64 x := by
  unfold blackG
  by_cases e : atK g c a = 2
  · rw [decide_eq_true e]
    obtain ⟨_, h1, h2⟩ := done_may e
    show ∀ x ∈ (setH g a (doneH g a)).w, I64 x
    rw [setH_yes h2]
    exact put64 h a (word64 h1.xmay)
  · rw [decide_eq_false e]; exact h
end Go.Abs
