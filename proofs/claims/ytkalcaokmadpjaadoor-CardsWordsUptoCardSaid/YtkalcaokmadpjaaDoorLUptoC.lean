/- What is read off lists of lists that are not too large; the call of a law that reads a laid variable. -/
import Derived.Test.YtkalcaokmadpjaaDoorLUpto
import Derived.Test.YtkalcaokmadpjaaDoorLCard
import Derived.Test.YtkalcaokmadpjaaDoorWAll1
import Derived.Deep.DeepHandedRow
set_option linter.all false
set_option linter.unusedVariables false
namespace Go.Proofs.YtkalcaokmadpjaaDoor
open Go.ChangeShapes Go.WideShapes Go.ChangeAt Go.RowKit

theorem slice_len {P : Program} {t e : TypeId} {H : Type} {enc : TypeId × Value → H} {W : World} {fuel : Nat} {v : Value} {x : DataW H × List MemPlace} (ht : P.underlying t = some (.slice e)) (hx : DataW.trod enc P W 0 (fun _ => true) true fuel t [v] = some x)
    {k : Abs.EK} {l : List k.T} (hr : Abs.Rep Abs.no W (.sl k l) v) : l.length ≤ Rows.uptoBulk x.1 := by
  rcases DataW.trod_slice ht hx with ⟨h1, _⟩ | ⟨a, len, cap, elems, rest, n, _, h1, rfl, _, _, _, h2, _⟩
  · cases h1
    cases hr
    exact Nat.zero_le _
  · cases h1
    have h3 := bulk_len (elems.map (·.1))
    simp only [List.length_map] at h3
    simp only [Rows.uptoBulk]
    cases hr with
    | slnil => exact Nat.zero_le _
    | sl => omega

set_option maxRecDepth 100000 in
theorem lists_bulk {H : Type} {enc : TypeId × Value → H} {W : World} {fuel : Nat} {cs : List Value} {x : DataW H × List MemPlace} {y : Abs.Lists} (hx : DataW.trod enc Tryd.prog W 0 (fun _ => true) true fuel 25 cs = some x) (hr : Abs.RepL Abs.no W (Abs.EK.lists.enc y) cs) :
    y.flat.length ≤ Rows.uptoBulk x.1 := by
  obtain ⟨xs, m, _, hxd, hcl, hlen, hel⟩ := DataW.trod_array Tryd.underlying25 hx
  have c1 : Tryd.prog.cellsOf 22 = 1 := by kernel_rfl
  subst hxd
  match cs, hr with
  | [v0, v1, v2], hr =>
    match xs, hlen with
    | [x0, x1, x2], _ =>
      have h0 := hel 0 (by decide)
      have h1 := hel 1 (by decide)
      have h2 := hel 2 (by decide)
      rw [c1] at h0 h1 h2
      have l0 := slice_len Tryd.underlying22 (show DataW.trod _ Tryd.prog W 0 _ true m 22 [v0] = some x0 from h0) (hr.2 0 _ v0 rfl rfl)
      have l1 := slice_len Tryd.underlying22 (show DataW.trod _ Tryd.prog W 0 _ true m 22 [v1] = some x1 from h1) (hr.2 1 _ v1 rfl rfl)
      have l2 := slice_len Tryd.underlying22 (show DataW.trod _ Tryd.prog W 0 _ true m 22 [v2] = some x2 from h2) (hr.2 2 _ v2 rfl rfl)
      have e : y.flat.length = y.l0.length + y.l1.length + y.l2.length := by simp [Abs.Lists.flat]; omega
      rw [e]
      simp only [List.map_cons, List.map_nil, Rows.uptoBulk, Rows.uptoBulkAll]
      have l0 : y.l0.length ≤ Rows.uptoBulk x0.1 := l0
      have l1 : y.l1.length ≤ Rows.uptoBulk x1.1 := l1
      have l2 : y.l2.length ≤ Rows.uptoBulk x2.1 := l2
      omega

theorem flats_bulk {H : Type} : ∀ (l : List Abs.Lists) (ds : List (DataW H)), l.length = ds.length → (∀ (i : Nat) (y : Abs.Lists) (d : DataW H), l[i]? = some y → ds[i]? = some d → y.flat.length ≤ Rows.uptoBulk d) → (Abs.flats l).length ≤ Rows.uptoBulkAll ds
  | [], [], _, _ => Nat.le_refl _
  | y :: l, d :: ds, hl, h => by
    have h1 := h 0 y d rfl rfl
    have h2 := flats_bulk l ds (by simpa using hl) fun i y d hy hd => h (i + 1) y d (by simpa using hy) (by simpa using hd)
    have e : (Abs.flats (y :: l)).length = y.flat.length + (Abs.flats l).length := by unfold Abs.flats; rw [List.flatMap_cons, List.length_append]
    rw [e]
    simp only [Rows.uptoBulkAll]
    omega
  | [], _ :: _, hl, _ => by simp at hl
  | _ :: _, [], hl, _ => by simp at hl

set_option maxRecDepth 100000 in
theorem listsS_bulk {H : Type} {enc : TypeId × Value → H} {W : World} {fuel : Nat} {v : Value} {x : DataW H × List MemPlace} {l : List Abs.Lists} (hx : DataW.trod enc Tryd.prog W 0 (fun _ => true) true fuel 39 [v] = some x) (hr : Abs.Rep Abs.no W (.sl .lists l) v) :
    (Abs.flats l).length ≤ Rows.uptoBulk x.1 := by
  have c3 : Tryd.prog.cellsOf 25 = 3 := by kernel_rfl
  rcases DataW.trod_slice Tryd.underlying39 hx with ⟨h1, _⟩ | ⟨a, len, cap, elems, rest, n, _, h1, rfl, _, _, _, h2, hel, _, _⟩
  · cases h1
    cases hr
    exact Nat.zero_le _
  · cases h1
    cases hr with
    | slnil => exact Nat.zero_le _
    | sl _ _ _ _ vs ho hs hc hm hl hrr hw =>
      have hb : (Abs.flats l).length ≤ Rows.uptoBulkAll (elems.map (·.1)) := by
        refine flats_bulk l _ (by rw [List.length_map]; exact h2.symm) fun i y d hy hd => ?_
        have hi : i < l.length := (List.getElem?_eq_some_iff.1 hy).1
        have hie : i < elems.length := by rw [h2]; exact hi
        have h3 := hel i hi
        have h4 : elems[i]? = some elems[i] := List.getElem?_eq_getElem hie
        have hdd : d = elems[i].1 := by
          rw [List.getElem?_map, h4] at hd
          simpa using hd.symm
        rw [h4, Option.bind_eq_some_iff] at h3
        obtain ⟨ecs, h5, h6⟩ := h3
        obtain ⟨h7, h8⟩ := Abs.cells?_get h5
        rw [c3] at h7 h8
        have hrl : Abs.RepL Abs.no W (Abs.EK.lists.enc y) ((vs.drop (i * 3)).take 3) := by
          have h9 := Abs.repL_elem (w := W) .lists l vs ⟨hl, hrr⟩ i hi
          have hyd : ∀ z : Abs.Lists, l.getD i z = y := fun z => by
            have hy' : l[i]? = some y := hy
            rw [List.getD_eq_getElem?_getD]
            exact congrArg (fun o : Option Abs.Lists => o.getD z) hy'
          have h9 : Abs.RepL Abs.no W (Abs.EK.lists.enc (l.getD i (@default _ (Abs.EK.inh .lists)))) ((vs.drop (i * 3)).take 3) := h9
          have hz := hyd (@default _ (Abs.EK.inh .lists))
          exact Eq.mp (congrArg (fun q : Abs.Lists => Abs.RepL Abs.no W (Abs.EK.lists.enc q) ((vs.drop (i * 3)).take 3)) hz) h9
        have he : ecs = (vs.drop (i * 3)).take 3 := by
          have hvl : vs.length = l.length * 3 := by rw [← hl]; exact Abs.flat_length .lists l
          apply List.ext_getElem?
          intro j
          by_cases hj : j < 3
          · have h9 := h8 j hj
            have h10 : (i * 3 + j) < vs.length := by omega
            have h11 := hw (i * 3 + j) _ (List.getElem?_eq_getElem h10)
            rw [List.getElem?_take, if_pos hj, List.getElem?_drop, List.getElem?_eq_getElem h10, ← h9, ← h11, Addr.add_add, Abs.add_spot hs]
          · rw [List.getElem?_eq_none (by omega), List.getElem?_take, if_neg hj]
        rw [hdd]
        exact lists_bulk h6 (he ▸ hrl)
      simp only [Rows.uptoBulk]
      omega

abbrev isListsSB (y : Abs.TV) : Prop := ∃ z : List Abs.Lists, y = .c (.d (.sl .lists z)) ∧ (Abs.flats z).length ≤ 1048576

set_option maxRecDepth 100000 in
theorem opnListsSB : OpnU Tryd.prog 39 isListsSB := by
  intro H enc W base v d ps hv hd hw hb
  obtain ⟨y, ⟨z, rfl⟩, hr⟩ := opnListsS H enc W base v d ps hv hd hw
  obtain ⟨a, len, cap, rfl⟩ := okWide_slice Tryd.underlying39 hv
  obtain ⟨fuel, hf⟩ := hd
  refine ⟨_, ⟨z, rfl, ?_⟩, hr⟩
  cases hr with | c _ _ hr =>
  cases hr with | d _ _ hr =>
  have hr' := hr.keep (.refl _ _) (O' := Abs.no) fun k _ h => h.elim
  exact Nat.le_trans (listsS_bulk (x := (d, ps)) hf hr') hb

/-- The law's call, at what was handed in. -/
theorem law_goesUg {X : Abs.Ctx} {f : Nat} (L : List (TypeId × (Abs.TV → Prop))) (hL : ∀ x ∈ L, OpnU X.P x.1 x.2) (spec : ∀ ys, Abs.Fits (L.map (·.2)) ys → Abs.Spec X f [] ys (Abs.Ret [] (.bo true)))
    (hl : laidOutB X.P = true) (hr : ∀ t ∈ L.map (·.1), X.P.readableRec t = true ∧ t < X.P.types.size) {H : Type} {enc : TypeId × Value → H} {W : World} (hg : Abs.GOk X (Abs.OO Abs.nn Abs.no) W) {base : Nat} {args : Array Value} {ds : List (DataW H)} {p : List MemPlace} {vt : List TypeId} {gs : List (DataW H)}
    (hgs : gs = []) (hvt : vt = []) (hv : ∀ (j : Nat) t v, (L.map (·.1))[j]? = some t → args[j]? = some v → Value.okWide X.P W .any base t v) (hA : DataW.TrodAll enc X.P W 0 (fun _ => true) true (L.map (·.1)) args.toList ds p)
    (hw : (DataW.weightsEach X.P (L.map (·.1) ++ vt) (ds ++ gs)).all (· ≤ reachBytes) = true) (hk : Rows.uptoSmall H (ds ++ gs) = true) (hp : ∀ x ∈ p, x.block < W.heap.size) :
    Calls X.P f args W fun e W' => e = .returned (.bool true) ∧ Below W.heap.size W W' ∧ DataW.TrodAll enc X.P W' 0 (fun b => decide (b < W.heap.size)) true (L.map (·.1)) args.toList ds p := by
  subst hgs hvt
  simp only [List.append_nil] at hw hk
  obtain ⟨ys, h1, h2⟩ := open_allU L hL args.toList ds p (fun j t v h h' => hv j t v h (by simpa using h')) hA (fun n hn => by simpa using List.all_eq_true.1 hw n hn) (of_decide_eq_true hk)
  have h := Abs.law_calls_g hg (spec ys h1) h2
  exact h.mono fun e w' ⟨he, hb⟩ => ⟨he, hb, Abs.carry_all hl hb _ hr _ _ _ hA hp⟩

end Go.Proofs.YtkalcaokmadpjaaDoor
