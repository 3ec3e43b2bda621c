/- Walks: what is not clean; going through all cards. -/
import Derived.Test.YtbbakbkmjhhbpaaGreatDoorWScanB
import Derived.Test.YtbbakbkmjhhbpaaGreatDoorWRef10
set_option linter.all false
set_option linter.unusedVariables false
set_option linter.unusedSimpArgs false
namespace Go.Abs
open Go.Proofs Go.Proofs.YtbbakbkmjhhbpaaGreatDoor
set_option maxRecDepth 8000

theorem rYoung_spec (g : Hp) (a : Int) (hl : g.light) (hw : ∀ x ∈ g.w, I64 x) : Spec X 20 [] [g.tv, .int a] (Ret [] (.bo (youngH g a))) := by
  refine spec_go X_ok Tryz.f20 (by kernel_rfl) (by kernel_rfl) (by kernel_rfl) fun hb hH => ⟨rfl, ?_⟩
  show ACall _ _ _ _ _ _
  refine call_ret (rHead7_spec g a hl hw) rfl ?_
  show ARet _ _ _
  refine ret_bo (x := bif decide (headE g a = 0) then !(headH g a).old else false) ?_ ⟨rfl, rfl⟩
  unfold youngH
  cases decide (headE g a = 0) <;> rfl

def yV (g : Hp) (u : Int) (f : Nat) : Bool := youngH g (wordAt g (u + ((f + 1 : Nat) : Int)))
def hasYB (g : Hp) (u : Int) : Bool := (List.range (headH g u).n.toNat).any (yV g u)
theorem hasY_iff {g : Hp} {u : Int} : hasYB g u = true ↔ hasY g u := by
  unfold hasYB hasY
  rw [List.any_eq_true]
  constructor
  · rintro ⟨f, hf, h⟩
    have := List.mem_range.1 hf
    exact ⟨((f + 1 : Nat) : Int), by omega, by omega, h⟩
  · rintro ⟨f, f1, f2, h⟩
    refine ⟨(f - 1).toNat, List.mem_range.2 (by omega), ?_⟩
    unfold yV
    rw [show (((f - 1).toNat + 1 : Nat) : Int) = f by omega]
    exact h
/-- An old object that is on no dirty card, and has what is not old. -/
def unclean (g : Hp) (u : Int) : Bool := (headH g u).old && (!isDirty g u && hasYB g u)
def cleanN (g : Hp) : Int := ((usedH g).find? (unclean g)).getD 0

theorem clean_zero {g : Hp} (h : cleanN g = 0) {u : Int} (hO : isO g u) (hy : hasY g u) : isDirty g u = true := by
  unfold cleanN at h
  cases hf : (usedH g).find? (unclean g) with
  | none =>
    have := List.find?_eq_none.1 hf u (mem_usedH.2 hO.1)
    unfold unclean at this
    rw [hO.2, hasY_iff.2 hy] at this
    cases hd : isDirty g u with
    | true => rfl
    | false => rw [hd] at this; exact absurd rfl this
  | some v =>
    rw [hf] at h
    have hv := List.mem_of_find?_eq_some hf
    have := (head_fits (mem_usedH.1 hv)).2.2.2.1
    have h : v = 0 := h
    omega
theorem clean_some {g : Hp} (h : 0 < cleanN g) : isO g (cleanN g) ∧ hasY g (cleanN g) ∧ isDirty g (cleanN g) = false := by
  unfold cleanN at *
  cases hf : (usedH g).find? (unclean g) with
  | none => rw [hf] at h; exact absurd h (by decide)
  | some v =>
    have hv := List.mem_of_find?_eq_some hf
    have hp := List.find?_some hf
    unfold unclean at hp
    rw [Bool.and_eq_true, Bool.and_eq_true] at hp
    exact ⟨⟨mem_usedH.1 hv, hp.1⟩, hasY_iff.1 hp.2.2, by simpa using hp.2.1⟩
theorem clean_nonneg (g : Hp) : 0 ≤ cleanN g := by
  unfold cleanN
  cases hf : (usedH g).find? (unclean g) with
  | none => exact Int.le_refl _
  | some v =>
    have := (head_fits (mem_usedH.1 (List.mem_of_find?_eq_some hf))).2.2.2.1
    show 0 ≤ v
    omega
theorem find_at {U : List Int} {i : Nat} {p : Int → Bool} (h : i < U.length) (hn : ∀ x ∈ U.take i, p x = false) (hp : p (U.getD i default) = true) : U.find? p = some (U.getD i default) := by
  have e : U = U.take i ++ U.getD i default :: U.drop (i + 1) := by
    have h1 := List.take_append_drop i U
    rw [List.drop_eq_getElem_cons h] at h1
    have h2 : U.getD i default = U[i] := by rw [List.getD_eq_getElem?_getD, List.getElem?_eq_getElem h]; rfl
    rw [h2]
    exact h1.symm
  have h2 : (U.take i).find? p = none := List.find?_eq_none.2 fun x hx => by rw [hn x hx]; decide
  generalize U.getD i default = y at *
  rw [e, List.find?_append, h2]
  simp [hp]

set_option maxHeartbeats 2000000 in
theorem tClean_spec (g : Hp) (hl : g.light) (hw : ∀ x ∈ g.w, I64 x) : Spec X 17 [] [g.tv] (Ret [] (.int (cleanN g))) := by
  refine spec_go X_ok Tryz.f17 (by kernel_rfl) (by kernel_rfl) (by kernel_rfl) fun hb hH => ⟨rfl, ?_⟩
  show ACall _ _ _ _ _ _
  refine .mk _ (rUsed7_spec g hl hw) fun H r ⟨eH, er⟩ _ _ => ⟨.inl rfl, ?_⟩
  subst eH er
  obtain ⟨U, hU⟩ : ∃ U, U = usedH g := ⟨_, rfl⟩
  rw [← hU]
  have hUl : U.length ≤ 512 := by rw [hU]; exact (by
    unfold usedH
    cases mayH g [] with
    | false => simp
    | true => exact Nat.le_trans (List.length_filter_le _ _) (starts_len g.pages))
  show ∃ n, _
  refine ⟨0, ALoop.inv (ι := {i : Nat // i ≤ U.length ∧ ∀ x ∈ U.take i, unclean g x = false}) (fun q => ⟨[(1, .c (.d (.rp (g.enc)))), (3, .c (.d (.sl .int (U)))), (4, .int (q.1))], [], 32⟩) (fun q => U.length - q.1) ⟨0, Nat.zero_le _, fun x hx => by simp at hx⟩ ?_ ?_⟩
  · exact ⟨[], (by repeat' first | exact .nil | refine .cons _ _ _ ?_ ?_ | exact .same | exact .c _ _ (.own _ _ rfl) | exact .c _ _ (.ptr _ _ _ _ rfl) | exact .c _ _ (.frz _ _ rfl) | exact .any _), (by exact .nil), (by rfl)⟩
  · rintro ⟨i, hi, hv⟩
    show ABr (decide ((i : Int) < (U.length : Int))) _ _
    refine ⟨fun h => ?_, fun h => ?_⟩
    · have hlt : i < U.length := by simpa using h
      have wi : IntKind.i64.wrap ((i : Int) + 1) = ((i + 1 : Nat) : Int) := wrapP (i := i) (by unfold maxN; omega)
      have hmem : U.getD i default ∈ U := by
        rw [List.getD_eq_getElem?_getD, List.getElem?_eq_getElem hlt]
        exact List.getElem_mem hlt
      have h0 : headE g (U.getD i default) = 0 := mem_usedH.1 (hU ▸ hmem)
      have hstep : unclean g (U.getD i default) = false → ∀ x ∈ U.take (i + 1), unclean g x = false := fun hn x hx => by
        rw [take_at0 hlt] at hx
        rcases List.mem_append.1 hx with hx | hx
        · exact hv x hx
        · rw [List.mem_singleton.1 hx]; exact hn
      show AOb ((0 : Int) ≤ (i : Int) ∧ (i : Int) < (U.length : Int)) _
      refine ⟨by omega, ?_⟩
      show ADCall _ _ _ _ _ _
      refine .mk _ _ (rHead7_spec g (U.getD i default) hl hw) rfl ?_
      show ABr (!(headH g (U.getD i default)).old) _ _
      refine ⟨fun h => ?_, fun h => ?_⟩
      · have hn : unclean g (U.getD i default) = false := by
          unfold unclean
          cases e : (headH g (U.getD i default)).old with
          | false => rfl
          | true => rw [e] at h; exact absurd h (by decide)
        show ABr _ _ _
        refine ⟨fun _ => ?_, fun h => absurd h (by decide)⟩
        show ARound _ _ _ _
        exact ⟨⟨i + 1, hlt, hstep hn⟩, (by dsimp only; omega), [], (by repeat' first | exact .nil | refine .cons _ _ _ ?_ ?_ | exact .int_eq wi | exact .same | exact .c _ _ (.own _ _ rfl) | exact .c _ _ (.ptr _ _ _ _ rfl) | exact .c _ _ (.frz _ _ rfl) | exact .any _), (by exact .nil), (by rfl)⟩
      · have hold : (headH g (U.getD i default)).old = true := by
          cases e : (headH g (U.getD i default)).old with
          | true => rfl
          | false => rw [e] at h; exact absurd h (by decide)
        show AOb ((0 : Int) ≤ (i : Int) ∧ (i : Int) < (U.length : Int)) _
        refine ⟨by omega, ?_⟩
        show ADCall _ _ _ _ _ _
        refine .mk _ _ (rIs10_spec g (U.getD i default) hl hw) rfl ?_
        show ABr (isDirty g (U.getD i default)) _ _
        refine ⟨fun h => ?_, fun h => ?_⟩
        · have hn : unclean g (U.getD i default) = false := by
            unfold unclean
            rw [h, Bool.not_true, Bool.false_and, Bool.and_false]
          show ARound _ _ _ _
          exact ⟨⟨i + 1, hlt, hstep hn⟩, (by dsimp only; omega), [], (by repeat' first | exact .nil | refine .cons _ _ _ ?_ ?_ | exact .int_eq wi | exact .same | exact .c _ _ (.own _ _ rfl) | exact .c _ _ (.ptr _ _ _ _ rfl) | exact .c _ _ (.frz _ _ rfl) | exact .any _), (by exact .nil), (by rfl)⟩
        · have hnd : isDirty g (U.getD i default) = false := h
          have hn63 : (headH g (U.getD i default)).n ≤ 63 := by
            obtain ⟨hm, hu⟩ := head_may h0
            unfold Hd.May at hm
            rw [if_pos hu] at hm
            exact hm.1.2
          have hfit := head_fits h0
          have e11 : (1 : Int) = ((0 + 1 : Nat) : Int) := rfl
          show ∃ n, _
          refine ⟨0, ALoop.inv (ι := {f : Nat // (f : Int) ≤ (headH g (U.getD i default)).n ∧ (List.range f).any (yV g (U.getD i default)) = false}) (fun q => ⟨[(1, .c (.d (.rp (g.enc)))), (3, .c (.d (.sl .int (U)))), (4, .int (i)), (5, .c (.d (.rp ((headH g (U.getD i default)).enc)))), (7, .int (((q.1 + 1 : Nat) : Int)))], [], 32⟩) (fun q => (headH g (U.getD i default)).n.toNat - q.1) ⟨0, by show (0 : Int) ≤ _; omega, rfl⟩ ?_ ?_⟩
          · exact ⟨[], (by repeat' first | exact .nil | refine .cons _ _ _ ?_ ?_ | exact .int_eq e11 | exact .same | exact .c _ _ (.own _ _ rfl) | exact .c _ _ (.ptr _ _ _ _ rfl) | exact .c _ _ (.frz _ _ rfl) | exact .any _), (by exact .nil), (by rfl)⟩
          rintro ⟨f, hf, hfv⟩
          have wf : IntKind.i64.wrap (((f + 1 : Nat) : Int) + 1) = ((f + 1 + 1 : Nat) : Int) := wrapP (i := f + 1) (by have : (f : Int) ≤ _ := hf; unfold maxN; omega)
          show ABr (decide (((f + 1 : Nat) : Int) ≤ (headH g (U.getD i default)).n)) _ _
          refine ⟨fun h => ?_, fun h => ?_⟩
          · have hfl := of_decide_eq_true h
            obtain ⟨z1, z2, z3⟩ := field_get h0 hfl
            have hval : g.w.getD (IntKind.i64.wrap (IntKind.i64.wrap (U.getD i default + ((f + 1 : Nat) : Int)) - 16)).toNat default = wordAt g (U.getD i default + ((f + 1 : Nat) : Int)) := by
              rw [z1]; rfl
            have hst : (List.range (f + 1)).any (yV g (U.getD i default)) = youngH g (g.w.getD (IntKind.i64.wrap (IntKind.i64.wrap (U.getD i default + ((f + 1 : Nat) : Int)) - 16)).toNat default) := by
              rw [List.range_succ, List.any_append, hfv, hval]
              simp [yV]
            show AOb ((0 : Int) ≤ (i : Int) ∧ (i : Int) < (U.length : Int)) _
            refine ⟨by omega, ?_⟩
            show AOb ((0 : Int) ≤ IntKind.i64.wrap (IntKind.i64.wrap (U.getD i default + ((f + 1 : Nat) : Int)) - 16) ∧ IntKind.i64.wrap (IntKind.i64.wrap (U.getD i default + ((f + 1 : Nat) : Int)) - 16) < (g.w.length : Int)) _
            refine ⟨by rw [z1]; omega, ?_⟩
            show ADCall _ _ _ _ _ _
            refine .mk _ _ (rYoung_spec g (g.w.getD (IntKind.i64.wrap (IntKind.i64.wrap (U.getD i default + ((f + 1 : Nat) : Int)) - 16)).toNat default) hl hw) rfl ?_
            show ABr (youngH g (g.w.getD (IntKind.i64.wrap (IntKind.i64.wrap (U.getD i default + ((f + 1 : Nat) : Int)) - 16)).toNat default)) _ _
            refine ⟨fun h => ?_, fun h => ?_⟩
            · have hun : unclean g (U.getD i default) = true := by
                unfold unclean
                have hy : hasYB g (U.getD i default) = true := hasY_iff.2 ⟨((f + 1 : Nat) : Int), by omega, hfl, by rw [← hval]; exact h⟩
                rw [hold, hnd, hy]; rfl
              show AOb ((0 : Int) ≤ (i : Int) ∧ (i : Int) < (U.length : Int)) _
              refine ⟨by omega, ?_⟩
              show ARet _ _ _
              refine ret_int (x := U.getD i default) ?_ ⟨rfl, rfl⟩
              unfold cleanN
              rw [← hU, find_at hlt hv hun]
              rfl
            · rw [h] at hst
              show ARound _ _ _ _
              exact ⟨⟨f + 1, hfl, hst⟩, (by dsimp only; omega), [], (by repeat' first | exact .nil | refine .cons _ _ _ ?_ ?_ | exact .int_eq wf | exact .same | exact .c _ _ (.own _ _ rfl) | exact .c _ _ (.ptr _ _ _ _ rfl) | exact .c _ _ (.frz _ _ rfl) | exact .any _), (by exact .nil), (by rfl)⟩
          · have hfl := of_decide_eq_false h
            have hfe : f = (headH g (U.getD i default)).n.toNat := by have : (f : Int) ≤ _ := hf; omega
            have hn : unclean g (U.getD i default) = false := by
              unfold unclean hasYB
              rw [← hfe, hfv, Bool.and_false, Bool.and_false]
            show ARound _ _ _ _
            exact ⟨⟨i + 1, hlt, hstep hn⟩, (by dsimp only; omega), [], (by repeat' first | exact .nil | refine .cons _ _ _ ?_ ?_ | exact .int_eq wi | exact .same | exact .c _ _ (.own _ _ rfl) | exact .c _ _ (.ptr _ _ _ _ rfl) | exact .c _ _ (.frz _ _ rfl) | exact .any _), (by exact .nil), (by rfl)⟩
    · have hge : i = U.length := by simp at h; omega
      show ARet _ _ _
      refine ret_int (x := 0) ?_ ⟨rfl, rfl⟩
      unfold cleanN
      rw [← hU]
      have hv : ∀ x ∈ U.take i, unclean g x = false := hv
      rw [hge, List.take_length] at hv
      rw [List.find?_eq_none.2 fun x hx => by rw [hv x hx]; decide]
      rfl
end Go.Abs
