/- Walks: a heap may be, is whole, has heads and objects as the document says. -/
import Derived.Test.YtkalcaokmadpjaaDoorWRef07
set_option linter.all false
set_option linter.unusedVariables false
set_option linter.unusedSimpArgs false
namespace Go.Abs
open Go.Proofs Go.Proofs.YtkalcaokmadpjaaDoor
set_option maxRecDepth 8000

abbrev lightL (l : Lists) : Prop := l.l0.length ≤ 70 ∧ l.l1.length ≤ 70 ∧ l.l2.length ≤ 70

theorem flats_light {L : List Lists} (h : ∀ l ∈ L, lightL l) : (flats L).length ≤ 210 * L.length := by
  induction L with
  | nil => exact Nat.le_refl _
  | cons x r ih =>
    have h1 := h x (List.mem_cons_self ..)
    have h2 := ih fun l hl => h l (List.mem_cons_of_mem _ hl)
    obtain ⟨a, b, c⟩ := h1
    have : (flats (x :: r)).length = x.flat.length + (flats r).length := by unfold flats; rw [List.flatMap_cons, List.length_append]
    have h3 : x.flat.length = x.l0.length + x.l1.length + x.l2.length := by simp [Lists.flat]; omega
    rw [this, h3, List.length_cons]
    omega

theorem few_lightL {g : Hp} (h : fewH g = true) : lightL g.free := by
  have := of_decide_eq_true h
  exact ⟨by omega, by omega, by omega⟩

/-- Caches that are few and light, with those of a heap that is few. -/
theorem flats_few {g : Hp} {cs : List Lists} (hf : fewH g = true) (h4 : cs.length ≤ 4) (hcs : ∀ l ∈ cs, lightL l) : (flats (lsts g cs)).length ≤ most := by
  have h1 := flats_light (L := g.free :: cs) (by
    intro l hl
    rcases List.mem_cons.1 hl with rfl | hl
    · exact few_lightL hf
    · exact hcs l hl)
  rw [List.length_cons] at h1
  show (flats (g.free :: cs)).length ≤ _
  unfold most
  omega

theorem mem_of_lt {α : Type} [Inhabited α] {l : List α} {p : α → Prop} (h : ∀ j, j < l.length → p (l.getD j default)) : ∀ x ∈ l, p x := by
  intro x hx
  obtain ⟨j, hj, rfl⟩ := List.mem_iff_getElem.1 hx
  have := h j hj
  rw [List.getD_eq_getElem?_getD, List.getElem?_eq_getElem hj] at this
  exact this

theorem HeapTells_spec (g : Hp) (hw : ∀ x ∈ g.w, I64 x) (cs : List Lists) (a : Int) : Spec X 4 [] [g.tv, .c (.d (.sl .lists cs)), .int a] (Ret [] (.bo true)) := by
  refine spec_go X_ok Tryd.f4 (by kernel_rfl) (by kernel_rfl) (by kernel_rfl) fun hb hH => ⟨rfl, ?_⟩
  show ACall _ _ _ _ _ _
  refine call_ret (awake7_spec) rfl ?_
  show ACall _ _ _ _ _ _
  refine call_ret (Few_spec g) rfl ?_
  show ABr (bif (bif !true then true else !fewH g) then true else decide ((cs.length : Int) > 4)) _ _
  refine ⟨fun h => ?_, fun h => ?_⟩
  · show ARet _ _ _
    exact ret_d rfl ⟨rfl, rfl⟩
  have hc : fewH g = true ∧ cs.length ≤ 4 := by
    cases hf : fewH g with
    | false => rw [hf] at h; exact absurd h (by simp)
    | true => rw [hf] at h; exact ⟨rfl, by have := of_decide_eq_false (show decide ((cs.length : Int) > 4) = false from h); omega⟩
  obtain ⟨hf, h4⟩ := hc
  have hl := few_light hf
  show ∃ n, _
  refine ⟨0, ALoop.inv (ι := {i : Nat // i ≤ cs.length ∧ ∀ j, j < i → lightL (cs.getD j default)}) (fun q => ⟨[(1, .c (.d (.sl .lists (cs)))), (2, .int (a)), (3, .c (.d (.rp (g.enc)))), (9, .int (q.1))], [], 32⟩) (fun q => cs.length - q.1) ⟨0, Nat.zero_le _, fun j hj => absurd hj (by omega)⟩ ?_ ?_⟩
  · exact ⟨[], (by repeat' first | exact .nil | refine .cons _ _ _ ?_ ?_ | exact .same | exact .c _ _ (.own _ _ rfl) | exact .c _ _ (.ptr _ _ _ _ rfl) | exact .c _ _ (.frz _ _ rfl) | exact .any _), (by exact .nil), (by rfl)⟩
  rintro ⟨i, hi, hn⟩
  show ABr (decide ((i : Int) < (cs.length : Int))) _ _
  refine ⟨fun h => ?_, fun h => ?_⟩
  · have hlt : i < cs.length := by simpa using h
    have wi : IntKind.i64.wrap ((i : Int) + 1) = ((i + 1 : Nat) : Int) := wrapP (i := i) (by unfold maxN; omega)
    show AOb ((0 : Int) ≤ (i : Int) ∧ (i : Int) < (cs.length : Int)) _
    refine ⟨by omega, ?_⟩
    show ACall _ _ _ _ _ _
    refine call_ret (Light_spec (cs.getD i default)) rfl ?_
    show ABr (!decide (lightL (cs.getD i default))) _ _
    refine ⟨fun h => ?_, fun h => ?_⟩
    · show ARet _ _ _
      exact ret_d rfl ⟨rfl, rfl⟩
    · have hli : lightL (cs.getD i default) := by simpa using h
      have hnn : ∀ j, j < i + 1 → lightL (cs.getD j default) := fun j hj => by
        by_cases e : j = i
        · subst e; exact hli
        · exact hn j (by omega)
      show ARound _ _ _ _
      exact ⟨⟨i + 1, hlt, hnn⟩, (by dsimp only; omega), [], (by repeat' first | exact .nil | refine .cons _ _ _ ?_ ?_ | exact .int_eq wi | exact .same | exact .c _ _ (.own _ _ rfl) | exact .c _ _ (.ptr _ _ _ _ rfl) | exact .c _ _ (.frz _ _ rfl) | exact .any _), (by exact .nil), (by rfl)⟩
  have hge : i = cs.length := by simp at h; omega
  have hall : ∀ l ∈ cs, lightL l := mem_of_lt (by rw [← hge]; exact hn)
  have hfl := flats_few hf h4 hall
  have hcm : cs.length < most := by unfold most; omega
  show ACall _ _ _ _ _ _
  refine call_ret (hHead_spec g a hl) rfl ?_
  show ACall _ _ _ _ _ _
  refine call_ret (rHead7_spec g a hl hw) rfl ?_
  show ACall _ _ _ _ _ _
  refine call_ret (hUsed_spec g hl) rfl ?_
  obtain ⟨U, hU⟩ : ∃ U, U = usedH g := ⟨_, rfl⟩
  rw [← hU]
  show ACall _ _ _ _ _ _
  refine .mk _ (rUsed7_spec g hl hw) fun H r ⟨eH, er⟩ _ _ => ⟨.inl rfl, ?_⟩
  subst eH er
  rw [← hU]
  show ABr _ _ _
  refine ⟨fun h => absurd h (by simp), fun _ => ?_⟩
  have hUl : U.length ≤ 512 := by
    rw [hU]; unfold usedH
    cases mayH g [] with
    | false => exact Nat.zero_le _
    | true => exact Nat.le_trans (List.length_filter_le _ _) (starts_len g.pages)
  show ∃ n, _
  refine ⟨0, ALoop.inv (ι := {i : Nat // i ≤ U.length}) (fun q => ⟨[(1, .c (.d (.sl .lists (cs)))), (3, .c (.d (.rp (g.enc)))), (10, .c (.d (.rp ((headH g a).enc)))), (11, .int (headE g a)), (12, .c (.d (.rp ((headH g a).enc)))), (13, .int (headE g a)), (14, .c (.d (.sl .int (U)))), (15, .c (.d (.sl .int (U)))), (16, .int (q.1))], [], 32⟩) (fun q => U.length - q.1) ⟨0, Nat.zero_le _⟩ ?_ ?_⟩
  · exact ⟨[], (by repeat' first | exact .nil | refine .cons _ _ _ ?_ ?_ | exact .same | exact .c _ _ (.own _ _ rfl) | exact .c _ _ (.ptr _ _ _ _ rfl) | exact .c _ _ (.frz _ _ rfl) | exact .any _), (by exact .nil), (by rfl)⟩
  rintro ⟨i, hi⟩
  show ABr (decide ((i : Int) < (U.length : Int))) _ _
  refine ⟨fun h => ?_, fun h => ?_⟩
  · have hlt : i < U.length := by simpa using h
    have wi : IntKind.i64.wrap ((i : Int) + 1) = ((i + 1 : Nat) : Int) := wrapP (i := i) (by unfold maxN; omega)
    show AOb ((0 : Int) ≤ (i : Int) ∧ (i : Int) < (U.length : Int)) _
    refine ⟨by omega, ?_⟩
    show AOb ((0 : Int) ≤ (i : Int) ∧ (i : Int) < (U.length : Int)) _
    refine ⟨by omega, ?_⟩
    show ABr _ _ _
    refine ⟨fun h => absurd h (by exact fun h => absurd rfl (bne_iff_ne.1 h)), fun _ => ?_⟩
    show ARound _ _ _ _
    exact ⟨⟨i + 1, hlt⟩, (by dsimp only; omega), [], (by repeat' first | exact .nil | refine .cons _ _ _ ?_ ?_ | exact .int_eq wi | exact .same | exact .c _ _ (.own _ _ rfl) | exact .c _ _ (.ptr _ _ _ _ rfl) | exact .c _ _ (.frz _ _ rfl) | exact .any _), (by exact .nil), (by rfl)⟩
  conv => whnf
  refine ⟨fun _ => ?_, fun h => absurd h (by simp)⟩
  show ABr _ _ _
  refine ⟨fun _ => ?_, fun h => absurd h (by simp)⟩
  show ADCall _ _ _ _ _ _
  refine .mk _ _ (hHMay_spec g cs hfl hcm) rfl ?_
  show ADCall _ _ _ _ _ _
  refine .mk _ _ (rMay7_spec g cs hfl hcm hw) rfl ?_
  show ABr _ _ _
  refine ⟨fun _ => ?_, fun h => absurd h (by simp)⟩
  show ADCall _ _ _ _ _ _
  refine .mk _ _ (Whole_spec g cs hfl hcm) rfl ?_
  show ADCall _ _ _ _ _ _
  refine .mk _ _ (rWhole7_spec g cs hfl hcm hw) rfl ?_
  show ARet _ _ _
  refine ret_bo (x := wholeH g cs == wholeH g cs) ?_ ⟨rfl, rfl⟩
  simp
end Go.Abs
