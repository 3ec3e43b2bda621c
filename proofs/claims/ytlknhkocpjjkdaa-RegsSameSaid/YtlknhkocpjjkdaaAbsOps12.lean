/- Structs, arrays and slices that are built out of parts. -/
import Derived.Test.YtlknhkocpjjkdaaAbsOps11
set_option linter.all false
set_option linter.unusedVariables false
set_option linter.unusedSimpArgs false
namespace Go.Abs
section
variable {X : Ctx} {N : Names} {S : Nat → Prop} {w : World}

theorem foldl_set (vs : List Value) (off : Nat) : ∀ (cs : Array Value) (s : Nat), off + s + vs.length ≤ cs.size → ((vs.zipIdx s).foldl (fun cs (x : Value × Nat) => cs.setIfInBounds (off + x.2) x.1) cs).toList = cs.toList.take (off + s) ++ vs ++ cs.toList.drop (off + s + vs.length) := by
  induction vs with
  | nil => intro cs s h; simp
  | cons v r ih =>
    intro cs s h
    simp only [List.zipIdx_cons, List.foldl_cons]
    rw [ih _ (s + 1) (by simp at h ⊢; omega)]
    simp only [Array.toList_setIfInBounds]
    have := list_seg_step cs.toList (off + s) v r (by simp at h ⊢; omega)
    rw [show off + (s + 1) = off + s + 1 from by omega]
    simpa using this

/-- The parts stand where they should. -/
theorem fill_rep {place : Nat → Option (Nat × Nat)} {placeA : Nat → Option (Nat × Nat)} : ∀ {ps : List (Nat × TV)} {vs : List (Nat × Value)} {zc : List CV} {zv : Array Value} {cs : List CV},
    aFill placeA zc ps = some cs → RepCL N S w zc zv.toList → ps.length = vs.length → (∀ (i : Nat) (p : Nat × TV) (v : Nat × Value), ps[i]? = some p → vs[i]? = some v → p.1 = v.1 ∧ RepT N S w p.2 v.2) → (∀ i q, placeA i = some q → place i = some q) →
    ∃ cells, Instr.fill place zv vs = some cells ∧ RepCL N S w cs cells.toList
  | [], [], zc, zv, cs, h, hz, _, _, _ => by
    simp only [aFill, Option.some.injEq] at h
    subst h
    exact ⟨zv, rfl, hz⟩
  | [], _ :: _, _, _, _, _, _, hl, _, _ => by simp at hl
  | _ :: _, [], _, _, _, _, _, hl, _, _ => by simp at hl
  | (i, tv) :: ps, (j, v) :: vs, zc, zv, cs, h, hz, hl, hr, hp => by
    have h0 := hr 0 (i, tv) (j, v) rfl rfl
    have hij : i = j := h0.1
    subst hij
    simp only [aFill] at h
    split at h
    · rename_i off sz us hpl hcs
      cases hc : (Nat.beq us.length sz && Nat.ble (off + sz) zc.length) with
      | false => rw [hc] at h; cases h
      | true =>
        rw [hc] at h
        simp only [Bool.and_eq_true] at hc
        have e1 := Nat.eq_of_beq_eq_true hc.1
        have e2 := Nat.le_of_ble_eq_true hc.2
        have hus := cells_rep h0.2 hcs
        have hvs : v.cells.size = sz := by rw [← e1, hus.1]; simp
        have hzl : zc.length = zv.size := by simpa using hz.1
        have hle : off + v.cells.size ≤ zv.size := by omega
        have hset : ((v.cells.zipIdx.foldl (fun cs (x : Value × Nat) => cs.setIfInBounds (off + x.2) x.1) zv)).toList = zv.toList.take off ++ v.cells.toList ++ zv.toList.drop (off + v.cells.toList.length) := by
          rw [← Array.foldl_toList, Array.toList_zipIdx]
          have := foldl_set v.cells.toList off zv 0 (by simpa using hle)
          simpa using this
        have hz' : RepCL N S w (splice zc off us) ((v.cells.zipIdx.foldl (fun cs (x : Value × Nat) => cs.setIfInBounds (off + x.2) x.1) zv)).toList := by
          rw [hset]
          exact repCL_splice hz hus off
        obtain ⟨cells, hf, hrep⟩ := fill_rep h hz' (by simpa using hl) (fun n p q hp' hq' => hr (n + 1) p q (by simpa using hp') (by simpa using hq')) hp
        refine ⟨cells, ?_, hrep⟩
        simp only [Instr.fill, hp i _ hpl]
        rw [if_neg (by simp [hvs]; omega)]
        exact hf
    · cases h

/-- The parts' values. -/
theorem parts_rep {lk : Nat → TV} {a : Act} (hρ : ∀ x, RepT N S w (X.opd lk x) (a.eval x)) (ps : Array (Nat × Operand)) :
    (ps.toList.map fun (i, x) => (i, X.opd lk x)).length = ((ps.map fun (i, x) => (i, a.eval x)).toList).length ∧
    ∀ (i : Nat) (p : Nat × TV) (v : Nat × Value), (ps.toList.map fun (i, x) => (i, X.opd lk x))[i]? = some p → ((ps.map fun (i, x) => (i, a.eval x)).toList)[i]? = some v → p.1 = v.1 ∧ RepT N S w p.2 v.2 := by
  refine ⟨by simp, fun i p v hp hv => ?_⟩
  simp only [List.getElem?_map, Option.map_eq_some_iff, Array.toList_map] at hp hv
  obtain ⟨q, hq, rfl⟩ := hp
  obtain ⟨q', hq', rfl⟩ := hv
  rw [hq] at hq'
  cases hq'
  exact ⟨rfl, hρ _⟩

theorem run_places (hX : XOk X) : ∀ (fs : List Field), (∀ f ∈ fs, (X.ty f.type).ok = true) →
    (fs.mapM (fun f => do pure (f.offset, ← sizeOf f.type) : Field → Sem (Nat × Nat))).run X.P w = .ok (fs.map fun f => (f.offset, (X.ty f.type).size)) w
  | [], _ => by simp
  | f :: r, h => by
    have ih := run_places hX r (fun g hg => h g (by simp [hg]))
    rw [List.mapM_cons]
    simp only [Sem.run_bind, sizeOf_ok hX (h f (by simp)), Result.andThen_ok, Sem.run_pure, ih, List.map_cons]

theorem aBuild_sound (hX : XOk X) (hnr : NR N S w) {lk : Nat → TV} {a : Act} (hρ : ∀ x, RepT N S w (X.opd lk x) (a.eval x)) {o : Oper} {t : Nat} {ps : Array (Nat × Operand)} (ho : o.op = .build t ps) :
    (aBuild X t (ps.toList.map fun (i, x) => (i, X.opd lk x))).Sound X.P N S w (execOp a.eval o) := by
  obtain ⟨hpl, hpr⟩ := parts_rep (X := X) hρ ps
  have hexec : ∀ v, (Instr.build t (ps.map fun (i, x) => (i, a.eval x))).run X.P w = .ok v w → (execOp a.eval o).run X.P w = .ok (.value v) w := by
    intro v h; unfold execOp; rw [ho]; exact run_v h
  unfold aBuild
  simp only
  split
  · rename_i fs hk
    cases hc : (!(X.ty t).ok || !(fs.all fun f => (X.ty f.2).ok)) with
    | true => trivial
    | false =>
      simp only [Bool.or_eq_false_iff, Bool.not_eq_false'] at hc
      simp only [cond_false]
      split
      · rename_i cs hf
        obtain ⟨g, hg, hgf⟩ := und_st hX hk
        obtain ⟨j, z, hj, hjz, hjs, hzs, hzr⟩ := zero_rep (N := N) (S := S) (w := w) (hX.ty t hc.1)
        have hall : ∀ f ∈ g.toList, (X.ty f.type).ok = true := by
          intro f hf'
          have := List.all_eq_true.1 hc.2 (f.offset, f.type) (by rw [← hgf]; exact List.mem_map.2 ⟨f, hf', rfl⟩)
          exact this
        have hplaces := run_places (w := w) hX g.toList hall
        obtain ⟨cells, hfill, hrep⟩ := fill_rep (place := ((g.toList.map fun f => (f.offset, (X.ty f.type).size)).toArray[·]?)) hf hzr hpl hpr (by
          intro i q hq
          simp only [lnth_get, Option.map_eq_some_iff] at hq
          obtain ⟨p, hp, rfl⟩ := hq
          rw [← hgf] at hp
          simp only [List.getElem?_map, Option.map_eq_some_iff] at hp
          obtain ⟨f, hf', rfl⟩ := hp
          simp [hf'])
        refine goes_pure hnr (hexec (.agg cells) ?_) (.agg _ _ hrep)
        have hmm : (g.mapM (fun f => do pure (f.offset, ← sizeOf f.type) : Field → Sem (Nat × Nat))).run X.P w = .ok (g.toList.map fun f => (f.offset, (X.ty f.type).size)).toArray w := by
          rw [Array.mapM_eq_mapM_toList]
          simp only [Sem.run_map, hplaces, Result.andThen_ok]
        simp only [Instr.build, Sem.run_bind, zeroValue, typeInfo, run_program, Result.andThen_ok, hj, Sem.run_pure, hjz, run_underlying hg, hmm, hfill]
      · trivial
  · rename_i n e hk
    cases hc : (!(X.ty t).ok || !(X.ty e).ok) with
    | true => trivial
    | false =>
      simp only [Bool.or_eq_false_iff, Bool.not_eq_false'] at hc
      simp only [cond_false]
      split
      · rename_i cs hf
        have hg := und_arr hX hk
        obtain ⟨j, z, hj, hjz, hjs, hzs, hzr⟩ := zero_rep (N := N) (S := S) (w := w) (hX.ty t hc.1)
        obtain ⟨cells, hfill, hrep⟩ := fill_rep (place := fun i => some (i * (X.ty e).size, (X.ty e).size)) hf hzr hpl hpr (fun i q hq => hq)
        refine goes_pure hnr (hexec (.agg cells) ?_) (.agg _ _ hrep)
        simp only [Instr.build, Sem.run_bind, zeroValue, typeInfo, run_program, Result.andThen_ok, hj, Sem.run_pure, hjz, run_underlying hg, sizeOf_ok hX hc.2, hfill]
      · trivial
  · trivial

theorem repC_rep {zc : List CV} {z : Array Value} (h : RepCL N S w zc z.toList) : ∀ n, RepCL N S w (repC zc n) (Builtin.zeroCells z n).toList
  | 0 => by
    have e : (Builtin.zeroCells z 0).toList = [] := by simp [Builtin.zeroCells]
    rw [e]
    exact ⟨rfl, fun i x v hx => by simp [repC] at hx⟩
  | n + 1 => by
    have ih := repC_rep h n
    have e : (Builtin.zeroCells z (n + 1)).toList = z.toList ++ (Builtin.zeroCells z n).toList := by
      apply List.ext_getElem?
      intro i
      rw [List.getElem?_append]
      have hs : (n + 1) * z.size = z.size + n * z.size := by rw [Nat.add_mul]; omega
      by_cases h1 : i < z.size
      · simp only [Array.length_toList, h1, if_true, Array.getElem?_toList]
        rw [zeroCells_get z (n + 1) i (by omega), Nat.mod_eq_of_lt h1]
      · simp only [Array.length_toList, h1, if_false, Array.getElem?_toList]
        by_cases h2 : i < (n + 1) * z.size
        · rw [zeroCells_get z (n + 1) i h2, zeroCells_get z n (i - z.size) (by omega)]
          congr 1
          rw [Nat.mod_eq_sub_mod (by omega)]
        · rw [Array.getElem?_eq_none (by rw [size_zeroCells]; omega), Array.getElem?_eq_none (by rw [size_zeroCells]; omega)]
    rw [e]
    exact repCL_append h ih

theorem repC_length (z : List CV) : ∀ n, (repC z n).length = n * z.length
  | 0 => by simp [repC]
  | n + 1 => by simp [repC, repC_length z n, Nat.add_mul]; omega

theorem aFill_length {place : Nat → Option (Nat × Nat)} : ∀ {ps : List (Nat × TV)} {z cs : List CV}, aFill place z ps = some cs → cs.length = z.length
  | [], z, cs, h => by simp only [aFill, Option.some.injEq] at h; rw [h]
  | (i, v) :: r, z, cs, h => by
    simp only [aFill] at h
    split at h
    · rename_i off sz vs hp hv
      cases hc : (Nat.beq vs.length sz && Nat.ble (off + sz) z.length) with
      | false => rw [hc] at h; cases h
      | true =>
        rw [hc] at h
        simp only [Bool.and_eq_true] at hc
        have e1 := Nat.eq_of_beq_eq_true hc.1
        have e2 := Nat.le_of_ble_eq_true hc.2
        rw [aFill_length h, splice_length z off vs (by omega)]
    · cases h

theorem aBuildSlice_sound (hX : XOk X) (hnr : NR N S w) {base : Nat} (hf0 : N base = .unused) {lk : Nat → TV} {a : Act} (hρ : ∀ x, RepT N S w (X.opd lk x) (a.eval x)) {o : Oper} {t n : Nat} {ps : Array (Nat × Operand)} (ho : o.op = .buildSlice t n ps) :
    (aBuildSlice X base t n (ps.toList.map fun (i, x) => (i, X.opd lk x))).Sound X.P N S w (execOp a.eval o) := by
  obtain ⟨hpl, hpr⟩ := parts_rep (X := X) hρ ps
  unfold aBuildSlice
  split
  · rename_i e hk
    simp only
    split
    · rename_i k cs hek hf
      cases hc : (!(Nat.ble (n * (X.ty e).size) 16777216) || !(Nat.ble n most)) with
      | true => trivial
      | false =>
        simp only [Bool.or_eq_false_iff, Bool.not_eq_false'] at hc
        have hle := Nat.le_of_ble_eq_true hc.1
        have hle2 := Nat.le_of_ble_eq_true hc.2
        simp only [cond_false]
        split
        · rename_i l hfit
          have hut := und_slc hX hk
          have hok : (X.ty e).ok = true := by
            cases hok : (X.ty e).ok with
            | true => rfl
            | false => have := (hX.kind e hok).2.2; rw [hek] at this; cases this
          obtain ⟨hks, hby⟩ := (hX.ty e hok).ek k hek
          obtain ⟨j, z, hj, hjz, hjs, hzs, hzr⟩ := zero_rep (N := N) (S := S) (w := w) (hX.ty e hok)
          have hzl : ((X.ty e).zero.map CV.d).length = (X.ty e).size := by rw [hzr.1]; simpa using hzs
          obtain ⟨cells, hfill, hrep⟩ := fill_rep (place := fun i => some (i * (X.ty e).size, (X.ty e).size)) hf (repC_rep hzr n) hpl hpr (fun i q hq => hq)
          have hcl : cs.length = n * (X.ty e).size := by rw [aFill_length hf, repC_length, hzl]
          obtain ⟨hfr, hln⟩ := fitAll_rep hfit hrep hcl
          have hcs : cells.size = n * (X.ty e).size := by rw [← hcl, hrep.1]; simp
          have htk : RepL (OO N S) w (l.flatMap k.enc) (cells.toList.take (l.length * k.size)) := by
            rw [hln, hks, ← hcs, ← Array.length_toList, List.take_length]
            exact hfr
          obtain ⟨e1, e2⟩ := alloc_data (l := l) hnr hf0 n (vs := cells) e (w1 := w) (WExt.refl _ _) rfl (by omega) (by simp only [most, maxN] at *; omega) (by rw [hcs, hks]; exact Nat.le_refl _) htk
          refine ⟨_, _, _, .inl ?_, e1, e2⟩
          rw [hln]
          unfold execOp; rw [ho]; refine run_v ?_
          have hb1 : ¬ (n * j.size > 2 ^ 24) := by rw [hjs]; omega
          have hzz : (Array.range (n * j.size)).map (fun x => z.cells[x % z.cells.size]!) = Builtin.zeroCells z.cells n := by unfold Builtin.zeroCells; rw [hzs, hjs]
          rw [← hjs] at hfill
          by_cases h0 : n * j.size = 0
          · have e0 : Builtin.zeroCells z.cells n = #[] := by rw [← hzz, h0]; simp [Array.range_zero']
            rw [e0] at hfill
            have e1 : (Array.range 0).map (fun _ => (default : Value)) = #[] := by simp [Array.range_zero']
            simp [Instr.buildSlice, run_underlying hut, sizeOf, typeInfo, hj, h0, newRow]
            have hf' : Instr.fill (fun i => some (i * j.size, j.size)) #[] (List.map (fun x => (x.fst, a.eval x.snd)) ps.toList) = some cells := by rw [Array.toList_map] at hfill; exact hfill
            rw [e1, hf']
            simp
          · rw [← hzz] at hfill
            have hf' : Instr.fill (fun i => some (i * j.size, j.size)) ((Array.range (n * j.size)).map (fun x => z.cells[x % z.cells.size]!)) (List.map (fun x => (x.fst, a.eval x.snd)) ps.toList) = some cells := by rw [Array.toList_map] at hfill; exact hfill
            simp [Instr.buildSlice, run_underlying hut, sizeOf, typeInfo, zeroValue, hj, hjz, hb1, h0, newRow]
            rw [hf']
            simp
        · trivial
    · trivial
  · trivial

end
end Go.Abs
