/- Walks: searches with a function; words by addresses. -/
import Derived.Test.YtpkngagppfoccaaGreatDoorAbsBase1
import Derived.Test.YtpkngagppfoccaaGreatDoorWClass
import Derived.Test.YtpkngagppfoccaaGreatDoorWHead
import Derived.Test.YtpkngagppfoccaaGreatDoorWCells1
import Derived.Test.YtpkngagppfoccaaGreatDoorWSort
set_option linter.all false
set_option linter.unusedVariables false
set_option linter.unusedSimpArgs false
namespace Go.Abs
open Go.Proofs Go.Proofs.YtpkngagppfoccaaGreatDoor
set_option maxRecDepth 8000

abbrev capT (cs : List DV) : List TV := cs.map fun x => .c (.d x)
theorem lend_caps (h : Heap) : ∀ cs : List DV, (capT cs).map (lendT h) = capT cs
  | [] => rfl
  | x :: r => by show _ :: _ = _; rw [lend_caps h r]; rfl

/-- A call of a function value that tells whether something holds. -/
theorem call_fn {g : Nat} {x : Int} {cs : List DV} {h : Heap} {base : Nat} {k : TV → Heap → Prop} {b : Bool} (hp : Spec X g [] (.int x :: capT cs) (Ret [] (.bo b))) (hk : k (.bo b) []) :
    ACall X g (.int x :: capT cs) h base k := by
  refine call_ret (r := .bo b) ?_ (by simp [scalT, scal]) hk
  show Spec X g [] (.int x :: (capT cs).map (lendT h)) _
  rw [lend_caps]
  exact hp

/-- Where the first is of which it holds. -/
def idxF (p : Int → Bool) : List Int → Option Nat
  | [] => none
  | x :: r => bif p x then some 0 else (idxF p r).map (· + 1)
def idxI (o : Option Nat) : Int := match o with | some i => i | none => -1

theorem idxF_none {p : Int → Bool} : ∀ {l : List Int}, (∀ x ∈ l, p x = false) → idxF p l = none
  | [], _ => rfl
  | x :: r, h => by simp [idxF, h x (by simp), idxF_none (l := r) fun y hy => h y (by simp [hy])]
theorem idxF_some {p : Int → Bool} : ∀ {l : List Int} {i : Nat}, i < l.length → (∀ j, j < i → p (at0 l j) = false) → p (at0 l i) = true → idxF p l = some i
  | [], i, h, _, _ => by simp at h
  | x :: r, 0, _, _, h => by
    have h : p x = true := h
    simp [idxF, h]
  | x :: r, i + 1, h, hj, hi => by
    have h0 : p x = false := hj 0 (by omega)
    have := idxF_some (l := r) (i := i) (by simpa using h) (fun j hj' => hj (j + 1) (by omega)) hi
    simp [idxF, h0, this]

theorem IndexFunc_spec (l : List Int) (g : Nat) (cs : List DV) (p : Int → Bool) (hp : ∀ x ∈ l, Spec X g [] (.int x :: capT cs) (Ret [] (.bo (p x)))) :
    Spec X 92 [] [.c (.d (.sl .int l)), .c (.d (.fn g [] cs))] (Ret [] (.int (idxI (idxF p l)))) := by
  refine spec_go X_ok Tryz.f92 (by kernel_rfl) (by kernel_rfl) (by kernel_rfl) fun hb _ => ⟨rfl, ?_⟩
  have hla : l.length ≤ maxN := (hb (.c (.d (.sl .int l))) (by simp)).1
  unfold maxN at hla
  show ∃ n, _
  refine ⟨0, ALoop.inv (ι := {i : Nat // i ≤ l.length ∧ ∀ j, j < i → p (at0 l j) = false}) (fun i => ⟨[(0, .c (.d (.sl .int l))), (1, .c (.d (.fn g [] cs))), (7, .int l.length), (8, .int i.1)], [], 32⟩) (fun i => l.length - i.1) ⟨0, Nat.zero_le _, fun j hj => absurd hj (by omega)⟩ ?_ ?_⟩
  · exact ⟨[], .cons _ _ _ .same (.cons _ _ _ .same (.cons _ _ _ .same (.cons _ _ _ .same .nil))), .nil, rfl⟩
  · rintro ⟨i, hi, hn⟩
    show ABr (decide ((i : Int) < (l.length : Int))) _ _
    refine ⟨fun h => ?_, fun h => ?_⟩
    · have hlt : i < l.length := by simpa using h
      show AOb ((0 : Int) ≤ (i : Int) ∧ (i : Int) < (l.length : Int)) _
      refine ⟨by omega, ?_⟩
      have hg : l.getD i default = at0 l i := rfl
      have hmem : l.getD i default ∈ l := by
        rw [List.getD_eq_getElem?_getD, List.getElem?_eq_getElem hlt]
        exact List.getElem_mem hlt
      refine call_fn (hp (l.getD i default) hmem) ?_
      show ABr (p (l.getD i default)) _ _
      refine ⟨fun h => ?_, fun h => ?_⟩
      · show ARet _ _ _
        refine ret_int (x := (i : Int)) ?_ ⟨rfl, rfl⟩
        rw [idxF_some hlt hn h]
        rfl
      · show ARound _ _ _ _
        exact ⟨⟨i + 1, hlt, fun j hj => by
          by_cases e : j = i
          · subst e; exact h
          · exact hn j (by omega)⟩, by show l.length - (i + 1) < l.length - i; omega, [], .cons _ _ _ .same (.cons _ _ _ .same (.cons _ _ _ .same (.cons _ _ _ (.int_eq (wrapP (i := i) (by unfold maxN; omega))) .nil))), .nil, rfl⟩
    · have hge : i = l.length := by simp at h; omega
      show ARet _ _ _
      refine ret_int (x := -1) ?_ ⟨rfl, rfl⟩
      rw [idxF_none fun x hx => ?_]
      · rfl
      · obtain ⟨j, hj, e⟩ := List.mem_iff_getElem.1 hx
        have := hn j (by omega)
        rw [show at0 l j = x from by unfold at0; rw [List.getD_eq_getElem?_getD, List.getElem?_eq_getElem hj, e]; rfl] at this
        exact this

theorem idxF_isSome (p : Int → Bool) : ∀ l : List Int, (idxF p l).isSome = l.any p
  | [] => rfl
  | x :: r => by
    have ih := idxF_isSome p r
    simp only [idxF, List.any_cons]
    cases p x with
    | true => rfl
    | false => rw [Bool.false_or, ← ih]; simp
theorem idxI_ge (p : Int → Bool) (l : List Int) : decide (idxI (idxF p l) ≥ 0) = l.any p := by
  rw [← idxF_isSome]
  cases idxF p l with
  | none => rfl
  | some i => simp [idxI]

theorem ContainsFunc_spec (l : List Int) (g : Nat) (cs : List DV) (p : Int → Bool) (hp : ∀ x ∈ l, Spec X g [] (.int x :: capT cs) (Ret [] (.bo (p x)))) :
    Spec X 87 [] [.c (.d (.sl .int l)), .c (.d (.fn g [] cs))] (Ret [] (.bo (l.any p))) := by
  refine spec_go X_ok Tryz.f87 (by kernel_rfl) (by kernel_rfl) (by kernel_rfl) fun hb _ => ⟨rfl, ?_⟩
  show ACall _ _ _ _ _ _
  refine call_ret (IndexFunc_spec l g cs p hp) rfl ?_
  show ARet _ _ _
  refine ret_bo (x := decide (idxI (idxF p l) ≥ 0)) (idxI_ge p l) ⟨rfl, rfl⟩

/-! Whether something holds of each of a list. -/
theorem every1_spec (g : Nat) (cs : List DV) (x : Int) (b : Bool) (hp : Spec X g [] (.int x :: capT cs) (Ret [] (.bo b))) :
    Spec X 88 [] (.int x :: capT [.rp [.fn g [] cs]]) (Ret [] (.bo !b)) := by
  refine spec_go X_ok Tryz.f88 (by kernel_rfl) (by kernel_rfl) (by kernel_rfl) fun hb _ => ⟨rfl, ?_⟩
  show ACall _ _ _ _ _ _
  refine call_fn hp ?_
  show ARet _ _ _
  refine ret_bo (x := !b) rfl ⟨rfl, rfl⟩

theorem every_spec (l : List Int) (g : Nat) (cs : List DV) (p : Int → Bool) (hp : ∀ x ∈ l, Spec X g [] (.int x :: capT cs) (Ret [] (.bo (p x)))) :
    Spec X 50 [] [.c (.d (.sl .int l)), .c (.d (.fn g [] cs))] (Ret [] (.bo (l.all p))) := by
  refine spec_go X_ok Tryz.f50 (by kernel_rfl) (by kernel_rfl) (by kernel_rfl) fun hb _ => ⟨rfl, ?_⟩
  show ACall _ _ _ _ _ _
  refine call_ret (ContainsFunc_spec l 88 [.rp [.fn g [] cs]] (fun x => !p x) (fun x hx => every1_spec g cs x (p x) (hp x hx))) rfl ?_
  show ARet _ _ _
  refine ret_bo (x := !l.any fun x => !p x) ?_ ⟨rfl, rfl⟩
  rw [← List.not_all_eq_any_not, Bool.not_not]

end Go.Abs

namespace Go.Abs
open Go.Proofs Go.Proofs.YtpkngagppfoccaaGreatDoor
set_option maxRecDepth 8000

/-- May so many pages be? -/
def pgN (n : Int) : Bool := decide (1 ≤ n ∧ n ≤ 64)
def mayW (w : List Int) : Bool := decide (w.length % 16 = 0 ∧ 1 ≤ w.length / 16 ∧ w.length / 16 ≤ 64)

theorem len_rem (n d : Nat) : ((n : Int).tmod (d : Int)) = ((n % d : Nat) : Int) := by rw [Int.tmod_eq_emod_of_nonneg (by omega)]; rfl
theorem len_quo (n d : Nat) (h : n ≤ maxN) : tdv (n : Int) (d : Int) = ((n / d : Nat) : Int) := by
  unfold maxN at h
  unfold tdv
  rw [Int.tdiv_eq_ediv_of_nonneg (by omega)]
  have e : ((n : Int) / (d : Int)) = ((n / d : Nat) : Int) := rfl
  have := Nat.div_le_self n d
  rw [e]
  generalize n / d = q at *
  rw [wrap64 (by omega) (by omega)]

theorem pages_spec (n : Int) : Spec X 108 [] [.int n] (Ret [] (.bo (pgN n))) := by
  refine spec_go X_ok Tryz.f108 (by kernel_rfl) (by kernel_rfl) (by kernel_rfl) fun hb hH => ⟨rfl, ?_⟩
  show ARet _ _ _
  refine ret_bo (x := bif decide (n ≥ 1) then decide (n ≤ 64) else false) ?_ ⟨rfl, rfl⟩
  unfold pgN
  by_cases h : 1 ≤ n <;> simp [h]

theorem aMay_spec (w : List Int) : Spec X 82 [] [.c (.d (.sl .int w))] (Ret [] (.bo (mayW w))) := by
  refine spec_go X_ok Tryz.f82 (by kernel_rfl) (by kernel_rfl) (by kernel_rfl) fun hb hH => ⟨rfl, ?_⟩
  have hla : w.length ≤ maxN := (hb (.c (.d (.sl .int w))) (by simp)).1
  have er := len_rem w.length 16
  have eq := len_quo w.length 16 hla
  show AOb _ _
  refine ⟨by decide, ?_⟩
  show AOb _ _
  refine ⟨by simp, ?_⟩
  show AIf ((((w.length : Int).tmod 16) == 0) = true ∧ True) _ _
  refine ⟨fun h => ?_, fun h => ?_⟩
  · show ACall _ _ _ _ _ _
    refine call_ret (pages_spec (tdv (w.length : Int) (16 : Nat))) rfl ?_
    show ARet _ _ _
    refine ret_bo (x := pgN (tdv (w.length : Int) (16 : Nat))) ?_ ⟨rfl, rfl⟩
    rw [eq]
    unfold pgN mayW
    have h : (((w.length : Int).tmod (16 : Nat)) == 0) = true := h.1
    rw [er] at h
    simp at h
    simp only [decide_eq_decide]
    omega
  · have h : (((w.length : Int).tmod 16) == 0) = false := Bool.eq_false_iff.2 fun h' => h ⟨h', trivial⟩
    show AOb ((((w.length : Int).tmod 16) == 0) = false) _
    refine ⟨h, ?_⟩
    show ARet _ _ _
    refine ret_bo (x := false) ?_ ⟨rfl, rfl⟩
    have h : (((w.length : Int).tmod (16 : Nat)) == 0) = false := h
    rw [er] at h
    simp at h
    unfold mayW
    symm
    apply decide_eq_false
    omega

theorem LeT.view_eq2 {ρ : List (Nat × Nat)} {h h' : Heap} {b c o p n m : Nat} (h1 : nmOf ρ b = some c) (e : o = p) (e' : n = m) : LeT ρ h h' (.c (.view b o n)) (.c (.view c p m)) := by subst e e'; exact .c _ _ (.view _ _ _ _ h1)

/-- A copy that is the caller's own. -/
theorem CloneIntsOwn_spec (l : List Int) (h : l.length ≤ most) (hne : l ≠ []) : Spec X 58 [] [.c (.d (.sl .int l))] (Ret [(0, .data .int l)] (.c (.own 0))) := by
  refine spec_go X_ok Tryz.f58 (by kernel_rfl) (by kernel_rfl) (by kernel_rfl) fun hb _ => ⟨rfl, ?_⟩
  intro b (hnil : b = true → l = [])
  show ABr _ _ _
  refine ⟨fun hb => absurd (hnil hb) hne, fun hb => ?_⟩
  show AOb (0 + l.length ≤ most) _
  refine ⟨by omega, ?_⟩
  show ARet _ _ _
  exact ⟨[(_, 0)], [(0, .data .int l)], [.c (.own 0)], .cons _ _ _ _ (.c _ _ (.own1 _ _)) .nil, .old 0 _ _ _ _ rfl rfl (.data_eq rfl) .nil, rfl, rfl, rfl⟩

theorem part_own (w : List Int) (a : Int) (hw : mayW w = true) (ha : 16 ≤ a ∧ a < 16 + w.length) : Spec X 116 [(16, .data .int w)] [.c (.own 16), .int a, .int 1] (fun H r => H = [(16, .data .int w)] ∧ r = .tup [.c (.view 16 (a - 16).toNat 1), .int 0]) := by
  refine spec_go X_ok Tryz.f116 (by kernel_rfl) (by kernel_rfl) (by kernel_rfl) fun hb hH => ⟨rfl, ?_⟩
  show ACall _ _ _ _ _ _
  refine call_ret (aMay_spec w) rfl ?_
  rw [hw]
  show ABr (!true) _ _
  show ABr _ _ _
  refine ⟨fun h => absurd h (by decide), fun _ => ?_⟩
  show ABr _ _ _
  refine ⟨fun h => absurd h (by decide), fun _ => ?_⟩
  have h1 : w.length ≤ 1024 := by have := of_decide_eq_true hw; omega
  have e1 : IntKind.i64.wrap (a - 16) = a - 16 := wrap64 (by omega) (by omega)
  have e2 : IntKind.i64.wrap ((w.length : Int) - (a - 16)) = w.length - (a - 16) := wrap64 (by omega) (by omega)
  show ABr (bif decide ((1 : Int) > 0) then (bif (bif decide (a < 16) then true else decide (IntKind.i64.wrap (a - 16) ≥ (w.length : Int))) then true else decide ((1 : Int) > IntKind.i64.wrap ((w.length : Int) - IntKind.i64.wrap (a - 16)))) else false) _ _
  rw [e1, e2]
  refine ⟨fun h => ?_, fun _ => ?_⟩
  · exfalso
    have g1 : decide (a < 16) = false := decide_eq_false (by omega)
    have g2 : decide (a - 16 ≥ (w.length : Int)) = false := decide_eq_false (by omega)
    have g3 : decide ((1 : Int) > (w.length : Int) - (a - 16)) = false := decide_eq_false (by omega)
    rw [g1, g2, g3] at h
    exact absurd h (by decide)
  · show ABr _ _ _
    refine ⟨fun h => absurd h (by decide), fun _ => ?_⟩
    show AOb ((0 : Int) ≤ IntKind.i64.wrap (a - 16) ∧ IntKind.i64.wrap (a - 16) ≤ (w.length : Int)) _
    rw [e1]
    refine ⟨by omega, ?_⟩
    show AOb ((0 : Int) ≤ 1 ∧ (1 : Int) ≤ 1 ∧ (1 : Int) ≤ ((((w.length : Int) - (a - 16)).toNat : Nat) : Int)) _
    refine ⟨by omega, ?_⟩
    show ARet _ _ _
    exact ⟨[(16, 16)], [(16, .data .int w)], [.c (.view 16 (a - 16).toNat 1), .int 0], .cons _ _ _ _ (.view_eq2 (o := (a - 16).toNat + 0) (n := 1) (by simp [nmOf]) rfl rfl) (.cons _ _ _ _ .same .nil), .old 16 16 _ _ _ rfl rfl (.data_eq rfl) .nil, rfl, rfl, rfl⟩

theorem aPut_spec (w : List Int) (a v : Int) (hw : mayW w = true) (ha : 16 ≤ a ∧ a < 16 + w.length) : Spec X 96 [] [.c (.d (.sl .int w)), .int a, .int v] (Ret [] (.tup [.c (.d (.sl .int (w.set (a - 16).toNat v))), .int 0])) := by
  refine spec_go X_ok Tryz.f96 (by kernel_rfl) (by kernel_rfl) (by kernel_rfl) fun hb hH => ⟨rfl, ?_⟩
  have h1 : 16 ≤ w.length ∧ w.length ≤ 1024 := by have := of_decide_eq_true hw; omega
  show ACall _ _ _ _ _ _
  refine .mk _ (CloneIntsOwn_spec w (by unfold most; omega) (by intro e; subst e; simp at h1)) fun H r ⟨eH, er⟩ _ _ => ⟨.inl rfl, ?_⟩
  subst eH er
  refine .hand [(_, 16)] [(16, .data .int w)] [.c (.own 16), .int a, .int 1] _ (.cons _ _ _ _ (.c _ _ (.own1 _ _)) (.cons _ _ _ _ .same (.cons _ _ _ _ .same .nil))) (.old 16 _ _ _ _ rfl rfl (.data_eq rfl) .nil) rfl (part_own w a hw ha) ?_
  rintro H r ⟨rfl, rfl⟩ _ _
  refine ⟨rfl, .inl rfl, ?_⟩
  show ABr _ _ _
  refine ⟨fun h => absurd h (by decide), fun _ => ?_⟩
  show AOb ((0 : Int) ≤ 0 ∧ (0 : Int) < ((1 : Nat) : Int)) _
  refine ⟨by omega, ?_⟩
  show AOb ((a - 16).toNat + 0 < w.length) _
  refine ⟨by omega, ?_⟩
  show ARet _ _ _
  exact ⟨[], [], [.c (.d (.sl .int (w.set (a - 16).toNat v))), .int 0], .cons _ _ _ _ (.frz (k := .int) (l := w.set ((a - 16).toNat + 0) v) rfl rfl) (.cons _ _ _ _ .same .nil), .nil, rfl, rfl, rfl⟩
end Go.Abs
