/- Cells that make an element; new blocks. -/
import Derived.Test.YtlknhkocpjjkdaaAbsOps5
set_option linter.all false
set_option linter.unusedVariables false
set_option linter.unusedSimpArgs false
namespace Go.Abs
section
variable {X : Ctx} {N : Names} {S : Nat → Prop} {w : World}

theorem toInts_rep {O : Nat → Prop} {d : DV} {l : List Int} {v : Value} (h : d.toInts = some l) (hr : Rep O w d v) : Rep O w (.sl .int l) v := by
  unfold DV.toInts at h
  split at h
  · cases h; exact hr
  · cases h
    cases hr
    exact .slnil .int none 0
  · cases h

theorem toOps_rep {O : Nat → Prop} {d : DV} {l : List Op} {v : Value} (h : d.toOps = some l) (hr : Rep O w d v) : Rep O w (.sl .op l) v := by
  unfold DV.toOps at h
  split at h
  · cases h; exact hr
  · cases h
    cases hr
    exact .slnil .op none 0
  · cases h

theorem repCL_cons {x : CV} {xs : List CV} {vs : List Value} (h : RepCL N S w (x :: xs) vs) : ∃ v us, vs = v :: us ∧ RepC N S w x v ∧ RepCL N S w xs us := by
  cases vs with
  | nil => have := h.1; simp at this
  | cons v us => exact ⟨v, us, rfl, h.2 0 x v rfl rfl, by simpa using h.1, fun i x v hx hv => h.2 (i + 1) x v (by simpa using hx) (by simpa using hv)⟩

theorem repCL_nil {vs : List Value} (h : RepCL N S w [] vs) : vs = [] := List.eq_nil_of_length_eq_zero h.1.symm

theorem repC_d {x : DV} {v : Value} (h : RepC N S w (.d x) v) : Rep (OO N S) w x v := by cases h with | d _ _ h => exact h

theorem repL_nil {O : Nat → Prop} : RepL O w [] [] := ⟨rfl, fun i x v h => by simp at h⟩

theorem repL_cons {O : Nat → Prop} {x : DV} {v : Value} {xs : List DV} {vs : List Value} (h : Rep O w x v) (hs : RepL O w xs vs) : RepL O w (x :: xs) (v :: vs) :=
  ⟨by simp [hs.1], fun i y u hx hv => by
    cases i with
    | zero => simp at hx hv; subst hx hv; exact h
    | succ i => exact hs.2 i y u (by simpa using hx) (by simpa using hv)⟩

theorem fit_rep {k : EK} {cs : List CV} {x : k.T} {vs : List Value} (h : k.fit cs = some x) (hr : RepCL N S w cs vs) : RepL (OO N S) w (k.enc x) vs := by
  cases k
  case int =>
    simp only [EK.fit] at h
    split at h
    · cases h
      obtain ⟨v, us, rfl, h1, hr⟩ := repCL_cons hr
      cases repCL_nil hr
      exact repL_cons (repC_d h1) repL_nil
    · cases h
  case bool =>
    simp only [EK.fit] at h
    split at h
    · cases h
      obtain ⟨v, us, rfl, h1, hr⟩ := repCL_cons hr
      cases repCL_nil hr
      exact repL_cons (repC_d h1) repL_nil
    · cases h
  case page =>
    simp only [EK.fit] at h
    split at h
    · cases h
      obtain ⟨_, _, rfl, h1, hr⟩ := repCL_cons hr
      obtain ⟨_, _, rfl, h2, hr⟩ := repCL_cons hr
      cases repCL_nil hr
      exact repL_cons (repC_d h1) (repL_cons (repC_d h2) repL_nil)
    · cases h
  case op =>
    simp only [EK.fit] at h
    split at h
    · cases h
      obtain ⟨_, _, rfl, h1, hr⟩ := repCL_cons hr
      obtain ⟨_, _, rfl, h2, hr⟩ := repCL_cons hr
      obtain ⟨_, _, rfl, h3, hr⟩ := repCL_cons hr
      obtain ⟨_, _, rfl, h4, hr⟩ := repCL_cons hr
      cases repCL_nil hr
      exact repL_cons (repC_d h1) (repL_cons (repC_d h2) (repL_cons (repC_d h3) (repL_cons (repC_d h4) repL_nil)))
    · cases h
  case lists =>
    simp only [EK.fit] at h
    split at h
    · split at h
      · rename_i e1 e2 e3
        cases h
        obtain ⟨_, _, rfl, h1, hr⟩ := repCL_cons hr
        obtain ⟨_, _, rfl, h2, hr⟩ := repCL_cons hr
        obtain ⟨_, _, rfl, h3, hr⟩ := repCL_cons hr
        cases repCL_nil hr
        exact repL_cons (toInts_rep e1 (repC_d h1)) (repL_cons (toInts_rep e2 (repC_d h2)) (repL_cons (toInts_rep e3 (repC_d h3)) repL_nil))
      · cases h
    · cases h
  case thread =>
    simp only [EK.fit] at h
    split at h
    · split at h
      · rename_i e1 e2 e3 e4
        cases h
        obtain ⟨_, _, rfl, h1, hr⟩ := repCL_cons hr
        obtain ⟨_, _, rfl, h2, hr⟩ := repCL_cons hr
        obtain ⟨_, _, rfl, h3, hr⟩ := repCL_cons hr
        obtain ⟨_, _, rfl, h4, hr⟩ := repCL_cons hr
        obtain ⟨_, _, rfl, h5, hr⟩ := repCL_cons hr
        obtain ⟨_, _, rfl, h6, hr⟩ := repCL_cons hr
        obtain ⟨_, _, rfl, h7, hr⟩ := repCL_cons hr
        obtain ⟨_, _, rfl, h8, hr⟩ := repCL_cons hr
        obtain ⟨_, _, rfl, h9, hr⟩ := repCL_cons hr
        obtain ⟨_, _, rfl, h10, hr⟩ := repCL_cons hr
        obtain ⟨_, _, rfl, h11, hr⟩ := repCL_cons hr
        obtain ⟨_, _, rfl, h12, hr⟩ := repCL_cons hr
        obtain ⟨_, _, rfl, h13, hr⟩ := repCL_cons hr
        obtain ⟨_, _, rfl, h14, hr⟩ := repCL_cons hr
        obtain ⟨_, _, rfl, h15, hr⟩ := repCL_cons hr
        cases repCL_nil hr
        exact repL_cons (repC_d h1) (repL_cons (repC_d h2) (repL_cons (repC_d h3) (repL_cons (repC_d h4) (repL_cons (repC_d h5) (repL_cons (toInts_rep e1 (repC_d h6)) (repL_cons (toInts_rep e2 (repC_d h7)) (repL_cons (toInts_rep e3 (repC_d h8))
          (repL_cons (repC_d h9) (repL_cons (repC_d h10) (repL_cons (repC_d h11) (repL_cons (toOps_rep e4 (repC_d h12)) (repL_cons (repC_d h13) (repL_cons (repC_d h14) (repL_cons (repC_d h15) repL_nil))))))))))))))
      · cases h
    · cases h
  case res =>
    simp only [EK.fit] at h
    split at h
    · cases h
      obtain ⟨_, _, rfl, h1, hr⟩ := repCL_cons hr
      obtain ⟨_, _, rfl, h2, hr⟩ := repCL_cons hr
      obtain ⟨_, _, rfl, h3, hr⟩ := repCL_cons hr
      obtain ⟨_, _, rfl, h4, hr⟩ := repCL_cons hr
      obtain ⟨_, _, rfl, h5, hr⟩ := repCL_cons hr
      obtain ⟨_, _, rfl, h6, hr⟩ := repCL_cons hr
      obtain ⟨_, _, rfl, h7, hr⟩ := repCL_cons hr
      cases repCL_nil hr
      exact repL_cons (repC_d h1) (repL_cons (repC_d h2) (repL_cons (repC_d h3) (repL_cons (repC_d h4) (repL_cons (repC_d h5) (repL_cons (repC_d h6) (repL_cons (repC_d h7) repL_nil))))))
    · cases h
  case pair =>
    simp only [EK.fit] at h
    split at h
    · cases h
      obtain ⟨_, _, rfl, h1, hr⟩ := repCL_cons hr
      obtain ⟨_, _, rfl, h2, hr⟩ := repCL_cons hr
      cases repCL_nil hr
      exact repL_cons (repC_d h1) (repL_cons (repC_d h2) repL_nil)
    · cases h
  case ints =>
    rcases cs with _ | ⟨c, _ | ⟨c2, r⟩⟩
    · cases h
    · cases c with
      | d a =>
        obtain ⟨_, _, rfl, h1, hr⟩ := repCL_cons hr
        cases repCL_nil hr
        exact repL_cons (toInts_rep h (repC_d h1)) repL_nil
      | _ => cases h
    · cases c <;> cases h

  case opss =>
    rcases cs with _ | ⟨c, _ | ⟨c2, r⟩⟩
    · cases h
    · cases c with
      | d a =>
        obtain ⟨_, _, rfl, h1, hr⟩ := repCL_cons hr
        cases repCL_nil hr
        exact repL_cons (toOps_rep h (repC_d h1)) repL_nil
      | _ => cases h
    · cases c <;> cases h

theorem fitAll_rep {k : EK} {sz : Nat} : ∀ {n : Nat} {cs : List CV} {l : List k.T} {vs : List Value}, fitAll k (chunks sz cs n) = some l → RepCL N S w cs vs → cs.length = n * sz →
    RepL (OO N S) w (l.flatMap k.enc) vs ∧ l.length = n
  | 0, cs, l, vs, h, hr, hl => by
    simp only [chunks, fitAll, Option.some.injEq] at h
    subst h
    have : vs = [] := List.eq_nil_of_length_eq_zero (by rw [← hr.1, hl]; simp)
    subst this
    exact ⟨repL_nil, rfl⟩
  | n + 1, cs, l, vs, h, hr, hl => by
    simp only [chunks, fitAll] at h
    split at h
    · rename_i x xs h1 h2
      cases h
      have hle : sz ≤ cs.length := by rw [hl, Nat.add_mul]; omega
      obtain ⟨h3, h4⟩ := fitAll_rep h2 (repCL_drop sz hr) (by simp [hl, Nat.add_mul])
      refine ⟨?_, by simp [h4]⟩
      have h5 := fit_rep h1 (repCL_take sz hr)
      have := repL_append h5 h3
      rw [List.take_append_drop] at this
      exact this
    · cases h

/-- A new block. -/
theorem step_new (hnr : NR N S w) {base : Nat} (hf : N base = .unused) (r : RL) (hr : r.blk = w.heap.size) {x : AB} {w' : World} (hw : WExt (fun _ => False) w w') (hlt : w.heap.size < w'.heap.size)
    (hb : BR (setN N base (.live r)) S w' base x) : Step N S w (setN N base (.live r)) w' [(base, x)] := by
  have hl : ∀ b q, b ≠ base → setN N base (.live r) b = .live q → N b = .live q := fun b q e h => by rwa [setN_other N _ e] at h
  refine ⟨hw.mono (fun _ _ h => h.elim), ⟨fun b b' q q' h h' he => ?_, fun b q h => ?_, fun k hk => Nat.lt_of_lt_of_le (hnr.sm k hk) hw.size⟩, ⟨fun b => ?_, fun k hk ⟨b, q, h, he⟩ => ?_⟩, fun b hb' => setN_other N _ (fun e => hb' (dom_one.2 e)), fun b y hy => ?_⟩
  · by_cases e : b = base
    · by_cases e' : b' = base
      · rw [e, e']
      · subst e
        rw [setN_same] at h
        cases h
        have := (hnr.lt b' q' (hl b' q' e' h')).1
        omega
    · by_cases e' : b' = base
      · subst e'
        rw [setN_same] at h'
        cases h'
        have := (hnr.lt b q (hl b q e h)).1
        omega
      · exact hnr.inj b b' q q' (hl b q e h) (hl b' q' e' h') he
  · by_cases e : b = base
    · subst e
      rw [setN_same] at h
      cases h
      exact ⟨by omega, fun hs => by have := hnr.sm _ hs; omega⟩
    · have := hnr.lt b q (hl b q e h)
      exact ⟨Nat.lt_of_lt_of_le this.1 hw.size, this.2⟩
  · by_cases e : b = base
    · subst e; exact .inl hf
    · exact .inr (.inl (setN_other N _ e))
  · by_cases e : b = base
    · subst e
      rw [setN_same] at h
      cases h
      omega
    · exact ⟨b, q, hl b q e h, he⟩
  · simp only [hlook] at hy
    cases h : Nat.beq base b with
    | false => rw [h] at hy; cases hy
    | true =>
      rw [h] at hy
      cases hy
      have := Nat.eq_of_beq_eq_true h
      subst this
      exact hb

theorem wext_alloc (w : World) (o : Obj) : WExt (fun _ => False) w (w.alloc o) := ⟨rfl, rfl, rfl, by simp, fun k hk _ => Go.RowKit.Below.heap_alloc w o k hk⟩

theorem wext_drew (w : World) : WExt (fun _ => False) w w.drew := ⟨rfl, rfl, rfl, Nat.le_refl _, fun _ _ _ => rfl⟩

theorem nx_new {base : Nat} (hf : N base = .unused) (r : RL) (hr : r.blk = w.heap.size) : NExt N (setN N base (.live r)) w :=
  ⟨fun b => by by_cases e : b = base
               · subst e; exact .inl hf
               · exact .inr (.inl (setN_other N _ e)),
   fun k hk ⟨b, q, h, he⟩ => by
    by_cases e : b = base
    · subst e; rw [setN_same] at h; cases h; omega
    · exact ⟨b, q, by rwa [setN_other N _ e] at h, he⟩⟩

/-- A new row of variables. -/
theorem alloc_vars (hnr : NR N S w) {base : Nat} (hf : N base = .unused) {cs : List CV} {vs : Array Value} (T : TypeId) (h : RepCL N S w cs vs.toList) :
    RepT (setN N base (.live ⟨w.heap.size, 0, 0, 0⟩)) S (w.alloc (.cells vs T)) (.c (.ptr base 0 0)) (.pointer (some ⟨w.heap.size, 0, none⟩)) ∧
    Step N S w (setN N base (.live ⟨w.heap.size, 0, 0, 0⟩)) (w.alloc (.cells vs T)) [(base, .vars cs)] := by
  refine ⟨.c _ _ (.ptr base 0 0 ⟨w.heap.size, 0, 0, 0⟩ (setN_same N _ _)), step_new hnr hf _ rfl (wext_alloc w _) (by simp) ?_⟩
  exact ⟨_, vs, T, setN_same N _ _, Go.heap_alloc_new w _, h.keep ((wext_alloc w _).mono (fun _ _ h => h.elim)) (nx_new hf _ rfl)⟩

/-- A new row of elements. -/
theorem alloc_data (hnr : NR N S w) {base : Nat} (hf : N base = .unused) {k : EK} {l : List k.T} (cap : Nat) {vs : Array Value} (T : TypeId) {w1 : World} (hw1 : WExt (fun _ => False) w w1) (he : w1.heap.size = w.heap.size)
    (hc : l.length ≤ cap) (hm : l.length ≤ maxN) (hsz : cap * k.size ≤ vs.size) (h : RepL (OO N S) w (l.flatMap k.enc) (vs.toList.take (l.length * k.size))) :
    RepT (setN N base (.live ⟨w.heap.size, cap, l.length, k.size⟩)) S (w1.alloc (.cells vs T)) (.c (.own base)) (.slice (some ⟨w.heap.size, 0, none⟩) l.length cap) ∧
    Step N S w (setN N base (.live ⟨w.heap.size, cap, l.length, k.size⟩)) (w1.alloc (.cells vs T)) [(base, .data k l)] := by
  have hx : WExt (fun _ => False) w (w1.alloc (.cells vs T)) := hw1.trans (wext_alloc w1 _) (fun _ _ h => h.elim)
  refine ⟨.c _ _ (.own base _ (setN_same N _ _)), step_new hnr hf _ rfl hx (by simp; omega) ?_⟩
  refine ⟨hm, .inr ⟨_, vs, T, setN_same N _ _, rfl, rfl, hc, ?_, hsz, h.keep (hx.mono (fun _ _ h => h.elim)) ((nx_new hf _ rfl).oo S)⟩⟩
  have := Go.heap_alloc_new w1 (.cells vs T)
  rw [he] at this
  exact this

end
end Go.Abs
