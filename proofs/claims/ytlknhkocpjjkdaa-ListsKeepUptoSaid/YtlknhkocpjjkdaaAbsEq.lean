/- '==' of structs and arrays of numbers and truths; the table of types against the program. -/
import Derived.Test.YtlknhkocpjjkdaaAbsCode
import Derived.Laws.StructEq
set_option linter.all false
set_option linter.unusedVariables false
set_option linter.unusedSimpArgs false
namespace Go.Abs

/-- Two values, cell by cell, of a type whose zero's cells are these. -/
inductive VEq : List DV → List Value → List Value → Bool → Prop
  | nil : VEq [] [] [] true
  | int (k kz : IntKind) (n a b : Int) (z : List DV) (r s : List Value) (e : Bool) (h : VEq z r s e) : VEq (.lit (.int kz n) :: z) (.int k a :: r) (.int k b :: s) ((a == b) && e)
  | bool (n a b : Bool) (z : List DV) (r s : List Value) (e : Bool) (h : VEq z r s e) : VEq (.lit (.bool n) :: z) (.bool a :: r) (.bool b :: s) ((a == b) && e)

theorem vEq_of {N : Names} {S : Nat → Prop} {w : World} : ∀ {z : List DV} {xs ys : List CV} {vs us : List Value} {b : Bool}, eqCells xs ys = some b → likeZ z xs = true → RepCL N S w xs vs → RepCL N S w ys us → VEq z vs us b := by
  intro z xs
  induction xs generalizing z with
  | nil =>
    intro ys vs us b he hz hx hy
    cases z with
    | cons _ _ => simp [likeZ] at hz
    | nil =>
      cases ys with
      | cons _ _ => simp [eqCells] at he
      | nil =>
        simp only [eqCells, Option.some.injEq] at he
        rw [repCL_nil hx, repCL_nil hy, ← he]
        exact .nil
  | cons x xs ih =>
    intro ys vs us b he hz hx hy
    unfold likeZ at hz
    split at hz
    · rename_i heq; cases heq
    · rename_i kz n z' k a r heq
      cases heq
      unfold eqCells at he
      split at he
      · rename_i heq; cases heq
      · rename_i k1 a1 r1 k2 b2 s2 heq
        cases heq
        cases hk : decide (k = k2) with
        | false => rw [hk] at he; cases he
        | true =>
          rw [hk] at he
          have := of_decide_eq_true hk
          subst this
          simp only [cond_true, Option.map_eq_some_iff] at he
          obtain ⟨e, he, rfl⟩ := he
          obtain ⟨v, vs, rfl, hv, hvs⟩ := repCL_cons hx
          obtain ⟨u, us, rfl, hu, hus⟩ := repCL_cons hy
          have h1 := (repC_lit hv).1
          have h2 := (repC_lit hu).1
          subst h1 h2
          exact .int _ _ _ _ _ _ _ _ _ (ih he hz hvs hus)
      · rename_i heq; cases heq
      · cases he
    · rename_i n z' a r heq
      cases heq
      unfold eqCells at he
      split at he
      · rename_i heq; cases heq
      · rename_i heq; cases heq
      · rename_i a1 r1 b2 s2 heq
        cases heq
        simp only [Option.map_eq_some_iff] at he
        obtain ⟨e, he, rfl⟩ := he
        obtain ⟨v, vs, rfl, hv, hvs⟩ := repCL_cons hx
        obtain ⟨u, us, rfl, hu, hus⟩ := repCL_cons hy
        have h1 := (repC_lit hv).1
        have h2 := (repC_lit hu).1
        subst h1 h2
        exact .bool _ _ _ _ _ _ _ (ih he hz hvs hus)
      · cases he
    · cases hz

theorem VEq.split : ∀ {z1 z2 : List DV} {r s : List Value} {e : Bool}, VEq (z1 ++ z2) r s e → ∃ r1 r2 s1 s2 e1 e2, r = r1 ++ r2 ∧ s = s1 ++ s2 ∧ e = (e1 && e2) ∧ VEq z1 r1 s1 e1 ∧ VEq z2 r2 s2 e2
  | [], z2, r, s, e, h => ⟨[], r, [], s, true, e, rfl, rfl, rfl, .nil, h⟩
  | _ :: z1, z2, _, _, _, .int k kz n a b _ r s e h => by
    obtain ⟨r1, r2, s1, s2, e1, e2, rfl, rfl, rfl, h1, h2⟩ := VEq.split h
    exact ⟨_, r2, _, s2, _, e2, rfl, rfl, by rw [Bool.and_assoc], .int k kz n a b _ _ _ _ h1, h2⟩
  | _ :: z1, z2, _, _, _, .bool n a b _ r s e h => by
    obtain ⟨r1, r2, s1, s2, e1, e2, rfl, rfl, rfl, h1, h2⟩ := VEq.split h
    exact ⟨_, r2, _, s2, _, e2, rfl, rfl, by rw [Bool.and_assoc], .bool n a b _ _ _ _ h1, h2⟩

theorem VEq.len {z : List DV} {r s : List Value} {e : Bool} (h : VEq z r s e) : r.length = z.length ∧ s.length = z.length := by
  induction h with
  | nil => exact ⟨rfl, rfl⟩
  | int _ _ _ _ _ _ _ _ _ _ ih => simp [ih]
  | bool _ _ _ _ _ _ _ _ ih => simp [ih]

def eqFs (P : Program) (g : Nat → List DV → Bool) : List Field → Nat → List DV → Bool
  | [], _, z => z.isEmpty
  | f :: r, off, z => match P.info? f.type with
    | some j => !(f.name == "_") && Nat.beq f.offset off && Nat.ble j.size z.length && g f.type (z.take j.size) && eqFs P g r (off + j.size) (z.drop j.size)
    | none => false

def eqAr (g : List DV → Bool) (n : Nat) : Nat → List DV → Bool
  | 0, z => z.isEmpty
  | k + 1, z => Nat.ble n z.length && g (z.take n) && eqAr g n k (z.drop n)

def eqT (P : Program) : Nat → Nat → List DV → Bool
  | 0, _, _ => false
  | d + 1, t, z => match P.underlying t with
    | some .bool => (match z with | [.lit (.bool _)] => true | _ => false)
    | some (.int _) => (match z with | [.lit (.int _ _)] => true | _ => false)
    | some (.struct fs) => !P.stoodInHeld t && eqFs P (eqT P d) fs.toList 0 z
    | some (.array len e) => (match P.info? e with | some j => eqAr (eqT P d e) j.size len z | none => false)
    | _ => false

def aggOf (P : Program) (t : Nat) : Bool := match P.underlying t with | some (.struct _) => true | some (.array _ _) => true | _ => false

def mkv (agg : Bool) (r : List Value) : Value := if agg then .agg r.toArray else r.headD undef

section
variable {P : Program} {w : World}

theorem eqT_und {d t : Nat} {z : List DV} (h : eqT P d t z = true) : ∃ u, P.underlying t = some u ∧ (isAgg t).run P w = .ok (aggOf P t) w ∧ (aggOf P t = false → z.length = 1) := by
  cases d with
  | zero => cases h
  | succ d =>
    simp only [eqT] at h
    split at h
    · rename_i hu
      refine ⟨_, hu, by simp [isAgg, aggOf, run_underlying hu, hu], fun _ => ?_⟩
      split at h
      · rfl
      · cases h
    · rename_i k hu
      refine ⟨_, hu, by simp [isAgg, aggOf, run_underlying hu, hu], fun _ => ?_⟩
      split at h
      · rfl
      · cases h
    · rename_i fs hu
      exact ⟨_, hu, by simp [isAgg, aggOf, run_underlying hu, hu], fun ha => by simp [aggOf, hu] at ha⟩
    · rename_i n e hu
      exact ⟨_, hu, by simp [isAgg, aggOf, run_underlying hu, hu], fun ha => by simp [aggOf, hu] at ha⟩
    · cases h

theorem part_at {d t : Nat} {z : List DV} (h : eqT P d t z = true) {j : TypeInfo} (hj : P.info? t = some j) {pre r post : List Value} {xs : Array Value} (hx : xs.toList = pre ++ r ++ post) (hr : r.length = j.size) (hz : r.length = z.length) :
    (part t xs pre.length).run P w = .ok (mkv (aggOf P t) r) w := by
  obtain ⟨u, hu, ha, h1⟩ := eqT_und (w := w) h
  have hxs : xs = (pre ++ r ++ post).toArray := by rw [← hx]
  cases hag : aggOf P t with
  | true =>
    rw [hag] at ha
    simp only [part, Sem.run_bind, ha, Result.andThen_ok, if_true, sizeOf, typeInfo, run_program, hj, Sem.run_pure, mkv]
    congr 2
    rw [hxs, ← hr]
    simp
  | false =>
    rw [hag] at ha
    have hl := h1 hag
    rw [← hz] at hl
    match r, hl with
    | [v], _ =>
      have hg : xs[pre.length]? = some v := by rw [hxs]; simp
      simp [part, ha, hg, mkv]

theorem eqFs_run (g : Nat → List DV → Bool) (d : Nat) (xs ys : Array Value)
    (hg : ∀ t z, g t z = true → ∃ d', eqT P d' t z = true) (hrun : ∀ t z r s e, g t z = true → VEq z r s e → (Op.equalIn d t (mkv (aggOf P t) r) (mkv (aggOf P t) s)).run P w = .ok e w) :
    ∀ (fs : List Field) (off : Nat) (z : List DV) (pr ps r s : List Value) (e : Bool), eqFs P g fs off z = true → VEq z r s e → pr.length = off → ps.length = off → xs.toList = pr ++ r → ys.toList = ps ++ s →
      (Op.eqFields d xs ys fs).run P w = .ok e w
  | [], off, z, pr, ps, r, s, e, h, he, _, _, _, _ => by
    simp only [eqFs, List.isEmpty_iff] at h
    subst h
    cases he
    simp [Op.eqFields]
  | f :: fs, off, z, pr, ps, r, s, e, h, he, h1, h2, hx, hy => by
    simp only [eqFs] at h
    split at h
    · rename_i j hj
      simp only [Bool.and_eq_true, Bool.not_eq_true'] at h
      obtain ⟨⟨⟨⟨hn, ho⟩, hle⟩, hgz⟩, hrest⟩ := h
      have ho := Nat.eq_of_beq_eq_true ho
      have hle := Nat.le_of_ble_eq_true hle
      rw [← List.take_append_drop j.size z] at he
      obtain ⟨r1, r2, s1, s2, e1, e2, rfl, rfl, rfl, g1, g2⟩ := he.split
      have hl1 := g1.len
      have htk : (z.take j.size).length = j.size := by simp [hle]
      obtain ⟨d', hd'⟩ := hg _ _ hgz
      have ha := part_at (w := w) hd' hj (pre := pr) (r := r1) (post := r2) (xs := xs) (by rw [hx, List.append_assoc]) (by omega) hl1.1
      have hb := part_at (w := w) hd' hj (pre := ps) (r := s1) (post := s2) (xs := ys) (by rw [hy, List.append_assoc]) (by omega) hl1.2
      have hn' : f.name ≠ "_" := by simpa using hn
      rw [h1, ← ho] at ha
      rw [h2, ← ho] at hb
      have hrec := eqFs_run g d xs ys hg hrun fs (off + j.size) (z.drop j.size) (pr ++ r1) (ps ++ s1) r2 s2 e2 hrest g2 (by simp; omega) (by simp; omega) (by rw [hx, List.append_assoc]) (by rw [hy, List.append_assoc])
      rw [Op.eqFields]
      simp only [if_pos hn', Sem.run_bind, ha, hb, hrun _ _ _ _ _ hgz g1, Result.andThen_ok]
      cases e1
      · simp
      · simpa using hrec
    · cases h

theorem eqAr_run (elem n d : Nat) (xs ys : Array Value) (g : List DV → Bool) {j : TypeInfo} (hj : P.info? elem = some j) (hn : j.size = n)
    (hg : ∀ z, g z = true → ∃ d', eqT P d' elem z = true) (hrun : ∀ z r s e, g z = true → VEq z r s e → (Op.equalIn d elem (mkv (aggOf P elem) r) (mkv (aggOf P elem) s)).run P w = .ok e w) :
    ∀ (len i : Nat) (z : List DV) (pr ps r s : List Value) (e : Bool), eqAr g n len z = true → VEq z r s e → pr.length = i * n → ps.length = i * n → xs.toList = pr ++ r → ys.toList = ps ++ s →
      (forIn (m := Sem) (List.range' i len) ((none, ()) : Option Bool × Unit) (fun i (_ : Option Bool × Unit) => do
        let a ← part elem xs (i * n)
        let b ← part elem ys (i * n)
        let c ← Op.equalIn d elem a b
        if (!c) = true then pure (.done (some false, ())) else pure (.yield (none, ())))).run P w = .ok (if e then (none, ()) else (some false, ())) w
  | 0, i, z, pr, ps, r, s, e, h, he, _, _, _, _ => by
    simp only [eqAr, List.isEmpty_iff] at h
    subst h
    cases he
    simp
  | len + 1, i, z, pr, ps, r, s, e, h, he, h1, h2, hx, hy => by
    simp only [eqAr, Bool.and_eq_true] at h
    obtain ⟨⟨hle, hgz⟩, hrest⟩ := h
    have hle := Nat.le_of_ble_eq_true hle
    rw [← List.take_append_drop n z] at he
    obtain ⟨r1, r2, s1, s2, e1, e2, rfl, rfl, rfl, g1, g2⟩ := he.split
    have hl1 := g1.len
    have htk : (z.take n).length = n := by simp [hle]
    obtain ⟨d', hd'⟩ := hg _ hgz
    have ha := part_at (w := w) hd' hj (pre := pr) (r := r1) (post := r2) (xs := xs) (by rw [hx, List.append_assoc]) (by omega) hl1.1
    have hb := part_at (w := w) hd' hj (pre := ps) (r := s1) (post := s2) (xs := ys) (by rw [hy, List.append_assoc]) (by omega) hl1.2
    rw [h1] at ha
    rw [h2] at hb
    have e3 : (i + 1) * n = i * n + n := Nat.succ_mul i n
    have hrec := eqAr_run elem n d xs ys g hj hn hg hrun len (i + 1) (z.drop n) (pr ++ r1) (ps ++ s1) r2 s2 e2 hrest g2 (by simp; omega) (by simp; omega) (by rw [hx, List.append_assoc]) (by rw [hy, List.append_assoc])
    rw [List.range'_succ, List.forIn_cons]
    simp only [Sem.run_bind, ha, hb, hrun _ _ _ _ hgz g1, Result.andThen_ok]
    cases e1
    · simp
    · simp only [Bool.not_true, Bool.false_eq_true, if_false, Sem.run_pure, Result.andThen_ok, Bool.true_and]
      exact hrec

theorem eqT_run : ∀ (d t : Nat) (z : List DV), eqT P d t z = true → ∀ (k : Nat) (r s : List Value) (e : Bool), VEq z r s e → (Op.equalIn (d + k) t (mkv (aggOf P t) r) (mkv (aggOf P t) s)).run P w = .ok e w
  | 0, t, z, h => by cases h
  | d + 1, t, z, h => by
    intro k r s e he
    have e0 : d + 1 + k = (d + k) + 1 := by omega
    rw [e0]
    simp only [eqT] at h
    split at h
    · rename_i hu
      split at h
      · rename_i b
        cases he with | bool _ a b _ _ _ e h =>
        cases h
        have ha : aggOf P t = false := by simp [aggOf, hu]
        simp [mkv, ha, Op.equalIn, run_underlying hu]
      · cases h
    · rename_i kk hu
      split at h
      · rename_i k0 n0
        cases he with | int k1 _ _ a b _ _ _ e h =>
        cases h
        have ha : aggOf P t = false := by simp [aggOf, hu]
        simp [mkv, ha, Op.equalIn, run_underlying hu]
      · cases h
    · rename_i fs hu
      simp only [Bool.and_eq_true, Bool.not_eq_true'] at h
      have ha : aggOf P t = true := by simp [aggOf, hu]
      have hf : P.fieldsOf t = fs := by simp [Program.fieldsOf, hu]
      simp only [mkv, ha, if_true]
      rw [run_equalIn_struct (P := P) w (d + k) t _ _ (by rw [hf]; exact hu) h.1, hf]
      exact eqFs_run (eqT P d) (d + k) _ _ (fun t z h => ⟨d, h⟩) (fun t z r s e h he => eqT_run d t z h k r s e he) fs.toList 0 z [] [] r s e h.2 he rfl rfl rfl rfl
    · rename_i len elem hu
      split at h
      · rename_i j hj
        have ha : aggOf P t = true := by simp [aggOf, hu]
        simp only [mkv, ha, if_true]
        have key := eqAr_run (w := w) elem j.size (d + k) r.toArray s.toArray (eqT P d elem) hj rfl (fun z h => ⟨d, h⟩) (fun z r s e h he => eqT_run d elem z h k r s e he) len 0 z [] [] r s e h he (by simp) (by simp) rfl rfl
        simp only [Op.equalIn, Sem.run_bind, run_underlying hu, Result.andThen_ok, sizeOf, typeInfo, run_program, hj, Sem.run_pure]
        rw [Std.Legacy.Range.forIn_eq_forIn_range']
        simp only [Std.Legacy.Range.size, Nat.sub_zero, Nat.add_one_sub_one, Nat.div_one]
        erw [key]
        cases e <;> simp
      · cases h
    · cases h

end

def eqOk (P : Program) (p : Nat × TI) : Bool := bif p.2.eqf then eqT P 8 p.1 p.2.zero && !(P.eqGuardType P.depth p.1) && aggOf P p.1 else true

theorem look_ty : ∀ (l : List (Nat × TI)) (d : TI) (t : Nat), look d l t = d ∨ (t, look d l t) ∈ l
  | [], _, _ => .inl rfl
  | (i, x) :: r, d, t => by
    simp only [look]
    cases hb : Nat.beq i t with
    | true => rw [Nat.eq_of_beq_eq_true hb]; exact .inr List.mem_cons_self
    | false => exact (look_ty r d t).imp id (List.mem_cons_of_mem _)

/-- The context fits, if its table does. -/
theorem xok_of {X : Ctx} (hm : X.P.follows .mixedOrders = true) (h : X.tt.all (fun p => tyCheck X.P p && eqOk X.P p) = true) : XOk X := by
  have key : ∀ t, (X.ty t).ok = true → (t, X.ty t) ∈ X.tt := fun t ht => by
    rcases look_ty X.tt ⟨.other, 0, 0, [], none, false, false⟩ t with e | e
    · rw [show X.ty t = _ from e] at ht; cases ht
    · exact e
  refine ⟨fun t ht => ?_, hm, fun t ht => ?_⟩
  · have hm := List.all_eq_true.1 h _ (key t ht)
    simp only [Bool.and_eq_true] at hm
    obtain ⟨h1, h2, h3⟩ := tyCheck_ok hm.1
    refine ⟨h1, h2, h3, fun he w xs ys vs us b N S hb hx hy hz => ?_⟩
    have hq := hm.2
    simp only [eqOk, he, cond_true, Bool.and_eq_true, Bool.not_eq_true'] at hq
    have hv := vEq_of hb hz hx hy
    have hr := eqT_run (P := X.P) (w := w) 8 t (X.ty t).zero hq.1.1 9992 vs.toList us.toList b hv
    rw [hq.2] at hr
    simp only [mkv, if_true, Array.toArray_toList] at hr
    exact ⟨hr, hq.1.2⟩
  · rcases look_ty X.tt ⟨.other, 0, 0, [], none, false, false⟩ t with e | e
    · rw [show X.ty t = _ from e]; exact ⟨rfl, rfl, rfl⟩
    · have hm := List.all_eq_true.1 h _ e
      simp only [Bool.and_eq_true] at hm
      have ht' : (look ⟨.other, 0, 0, [], none, false, false⟩ X.tt t).ok = false := ht
      have := hm.1
      unfold tyCheck at this
      split at this
      · simp [ht'] at this
      · cases this

end Go.Abs
