/- Regions: what is said of them is so. -/
import Derived.Test.YtlknhkocpjjkdaaAbsCall
set_option linter.all false
set_option linter.unusedVariables false
set_option linter.unusedSimpArgs false
namespace Go.Abs
section
variable {X : Ctx} {N : Names} {S : Nat → Prop} {w : World}

theorem Chain.beq_eq : ∀ {c d : Chain}, c.beq d = true → c = d
  | [], [], _ => rfl
  | [], _ :: _, h => by cases h
  | _ :: _, [], h => by cases h
  | (i, a) :: r, (j, b) :: s, h => by
    simp only [Chain.beq, Bool.and_eq_true, beq_iff_eq] at h
    rw [Nat.eq_of_beq_eq_true h.1.1, h.1.2, Chain.beq_eq h.2]

theorem Chain.mem_mem {c : Chain} : ∀ {l : List Chain}, c.mem l = true → c ∈ l
  | [], h => by cases h
  | d :: r, h => by
    simp only [Chain.mem, Bool.or_eq_true] at h
    rcases h with h | h
    · rw [Chain.beq_eq h]; exact List.mem_cons_self
    · exact List.mem_cons_of_mem _ (Chain.mem_mem h)

def hold1 (ops : List Oper) (tm : Array Value) (j : Nat) (b : Bool) : Prop := ∃ d, (ops[j]?).bind (·.dst) = some d ∧ tm[d]? = some (.bool b)

def holds (ops : List Oper) (tm : Array Value) : Chain → Prop
  | [] => True
  | (j, b) :: r => hold1 ops tm j b ∧ holds ops tm r

theorem yielded_iff {ops : List Oper} {tm : Array Value} {j : Nat} {b : Bool} : yielded ops.toArray tm j = some b ↔ hold1 ops tm j b := by
  unfold yielded hold1
  simp only [List.getElem?_toArray]
  cases (ops[j]?).bind (·.dst) with
  | none => simp
  | some d =>
    simp only [Option.bind_some, Option.some.injEq, exists_eq_left']
    cases htm : tm[d]? with
    | none => simp
    | some v =>
      constructor
      · intro h
        cases v <;> simp_all
      · intro h2
        simp at h2
        subst h2
        rfl

theorem isEnd_holds {ops : List Oper} {tm : Array Value} {c : Chain} : ∀ {L : Chain}, c.isEnd L = true → holds ops tm L → holds ops tm c
  | [], h, hl => by rw [Chain.beq_eq h]; exact hl
  | p :: r, h, hl => by
    simp only [Chain.isEnd, Bool.or_eq_true] at h
    rcases h with h | h
    · rw [Chain.beq_eq h]; exact hl
    · exact isEnd_holds h hl.2

theorem ends_holds {ops : List Oper} {tm : Array Value} {l : List Chain} : ∀ {L : Chain}, L.ends l = true → ∃ c, c ∈ l ∧ (holds ops tm L → holds ops tm c)
  | [], h => by cases h
  | p :: r, h => by
    simp only [Chain.ends, Bool.or_eq_true] at h
    rcases h with h | h
    · exact ⟨p :: r, Chain.mem_mem h, id⟩
    · obtain ⟨c, h1, h2⟩ := ends_holds (ops := ops) (tm := tm) h
      exact ⟨c, h1, fun hl => h2 hl.2⟩

def Low (i : Nat) (c : Chain) : Prop := ∀ p ∈ c, p.1 < i

theorem Low.nil (i : Nat) : Low i [] := fun p h => by cases h

theorem Low.up {i j : Nat} {c : Chain} (h : Low i c) (hj : i ≤ j) : Low j c := fun p hp => Nat.lt_of_lt_of_le (h p hp) hj

/-- Each temporary is written to once. -/
def Uq (ops : List Oper) (nt : Nat) : Prop := ∀ (j k : Nat) (o p : Oper) (d : Nat), ops[j]? = some o → ops[k]? = some p → o.dst = some d → p.dst = some d → j = k ∧ d < nt

theorem uniq_uq_aux {nt : Nat} : ∀ {l : List Oper} {seen : List Nat}, uniq nt l seen = true →
    (∀ (j : Nat) (o : Oper) (d : Nat), l[j]? = some o → o.dst = some d → d < nt ∧ d ∉ seen) ∧ Uq l nt
  | [], _, _ => ⟨fun j o d h => by simp at h, fun j k o p d h => by simp at h⟩
  | x :: r, seen, h => by
    simp only [uniq] at h
    cases hx : x.dst with
    | none =>
      rw [hx] at h
      obtain ⟨h1, h2⟩ := uniq_uq_aux h
      refine ⟨fun j o d ho hd => ?_, fun j k o p d ho hp hd hd' => ?_⟩
      · cases j with
        | zero => simp at ho; subst ho; rw [hx] at hd; cases hd
        | succ j => exact h1 j o d (by simpa using ho) hd
      · cases j with
        | zero => simp at ho; subst ho; rw [hx] at hd; cases hd
        | succ j =>
          cases k with
          | zero => simp at hp; subst hp; rw [hx] at hd'; cases hd'
          | succ k => obtain ⟨e, h3⟩ := h2 j k o p d (by simpa using ho) (by simpa using hp) hd hd'; exact ⟨by rw [e], h3⟩
    | some e =>
      rw [hx] at h
      simp only [Bool.and_eq_true, Bool.not_eq_true'] at h
      obtain ⟨⟨h3, h4⟩, h5⟩ := h
      have he : e < nt := by simpa [Nat.blt_eq] using h3
      have hns : e ∉ seen := fun hm => by
        rw [List.any_eq_false] at h4
        exact absurd (by simp) (h4 e hm)
      obtain ⟨h1, h2⟩ := uniq_uq_aux h5
      refine ⟨fun j o d ho hd => ?_, fun j k o p d ho hp hd hd' => ?_⟩
      · cases j with
        | zero => simp at ho; subst ho; rw [hx] at hd; cases hd; exact ⟨he, hns⟩
        | succ j => obtain ⟨h6, h7⟩ := h1 j o d (by simpa using ho) hd; exact ⟨h6, fun hm => h7 (List.mem_cons_of_mem _ hm)⟩
      · cases j with
        | zero =>
          simp at ho; subst ho; rw [hx] at hd; cases hd
          cases k with
          | zero => exact ⟨rfl, he⟩
          | succ k => exact absurd List.mem_cons_self (h1 k p e (by simpa using hp) hd').2
        | succ j =>
          cases k with
          | zero => simp at hp; subst hp; rw [hx] at hd'; cases hd'; exact absurd List.mem_cons_self (h1 j o e (by simpa using ho) hd).2
          | succ k => obtain ⟨e, h3⟩ := h2 j k o p d (by simpa using ho) (by simpa using hp) hd hd'; exact ⟨by rw [e], h3⟩

theorem uniq_uq {nt : Nat} {l : List Oper} (h : uniq nt l [] = true) : Uq l nt := (uniq_uq_aux h).2

inductive Good (ch : List (Nat × Chain)) : Chain → Prop
  | nil : Good ch []
  | cons (j : Nat) (b : Bool) (c : Chain) (h : cfind ch j = some c) (hg : Good ch c) : Good ch ((j, b) :: c)

structure RInv (X : Ctx) (ops : List Oper) (t : List (Nat × TV)) (nx nt : Nat) (S : Nat → Prop) (i : Nat) (R : RS) (a : Act) (N : Names) (w : World) : Prop where
  nr : NR N S w
  hr : HR N S w R.h
  fresh : ∀ b, nx + 32 * i ≤ b → N b = .unused
  size : a.tmps.size = nt
  def_ : a.defers = []
  g : GOk X (OO N S) w
  old : ∀ n, rfind R.r n = none → RepT N S w (look .any t n) (a.eval (.tmp n))
  new : ∀ n c v, rfind R.r n = some (c, v) → Low i c ∧ (holds ops a.tmps c → RepT N S w v (a.eval (.tmp n)))
  dst : ∀ n, rfind R.r n ≠ none → ∃ j o, j < i ∧ ops[j]? = some o ∧ o.dst = some n
  ch : ∀ j c, cfind R.ch j = some c → j < i ∧ Low i c ∧ Good R.ch c ∧ ∀ o d, ops[j]? = some o → o.dst = some d → (¬ holds ops a.tmps c → a.eval (.tmp d) = undef) ∧ ∃ c' v, rfind R.r d = some (c', v) ∧ (holds ops a.tmps c → holds ops a.tmps c')
  kt : ∀ c ∈ R.kt, Low i c ∧ holds ops a.tmps c
  kf : ∀ c ∈ R.kf, Low i c ∧ ¬ holds ops a.tmps c

theorem eval_put_ne (a : Act) (dst : Option Nat) (v : Value) (n : Nat) (h : dst ≠ some n) : (a.put dst v).eval (.tmp n) = a.eval (.tmp n) :=
  Act.eval_put fun d hd e => by cases e; exact h hd

theorem get_put_ne (a : Act) (dst : Option Nat) (v : Value) (n : Nat) (h : dst ≠ some n) : (a.put dst v).tmps[n]? = a.tmps[n]? := by
  cases dst with
  | none => rfl
  | some d =>
    have hne : d ≠ n := fun e => h (by rw [e])
    simp [Act.put, Array.getElem?_setIfInBounds_ne hne]

theorem eval_put_self (a : Act) (d : Nat) (v : Value) (h : d < a.tmps.size) : (a.put (some d) v).eval (.tmp d) = v := by
  simp [Act.eval, Act.put, h]

theorem put_size (a : Act) (dst : Option Nat) (v : Value) : (a.put dst v).tmps.size = a.tmps.size := by
  cases dst <;> simp [Act.put]

theorem put_defers (a : Act) (dst : Option Nat) (v : Value) : (a.put dst v).defers = a.defers := by
  cases dst <;> rfl

theorem holds_put {ops : List Oper} {nt : Nat} (hu : Uq ops nt) {i : Nat} {o : Oper} (ho : ops[i]? = some o) (a : Act) (v : Value) : ∀ {c : Chain}, Low i c → (holds ops (a.put o.dst v).tmps c ↔ holds ops a.tmps c)
  | [], _ => Iff.rfl
  | (j, b) :: r, hl => by
    have h1 := holds_put hu ho a v (c := r) fun p hp => hl p (List.mem_cons_of_mem _ hp)
    have hj : j < i := hl (j, b) List.mem_cons_self
    simp only [holds, h1]
    refine and_congr_left fun _ => ?_
    unfold hold1
    refine exists_congr fun d => and_congr_right fun hd => ?_
    rw [get_put_ne]
    intro e
    cases hoj : ops[j]? with
    | none => rw [hoj] at hd; cases hd
    | some oj =>
      rw [hoj] at hd
      have := (hu j i oj o d hoj ho hd e).1
      omega

theorem rfind_put {R : RS} {i : Nat} {dst : Option Nat} {own L : Chain} {v : TV} {δ : Heap} {n : Nat} (h : dst ≠ some n) : rfind (R.put i dst own L v δ).r n = rfind R.r n := by
  unfold RS.put
  cases dst with
  | none => rfl
  | some d =>
    have : Nat.beq d n = false := by
      cases hb : Nat.beq d n with
      | false => rfl
      | true => exact absurd (by rw [Nat.eq_of_beq_eq_true hb]) h
    simp [rfind, this]

theorem rfind_put_self {R : RS} {i d : Nat} {own L : Chain} {v : TV} {δ : Heap} : rfind (R.put i (some d) own L v δ).r d = some (L, v) := by
  simp [RS.put, rfind]

theorem cfind_put {R : RS} {i : Nat} {dst : Option Nat} {own L : Chain} {v : TV} {δ : Heap} {j : Nat} (h : i ≠ j) : cfind (R.put i dst own L v δ).ch j = cfind R.ch j := by
  have : Nat.beq i j = false := by
    cases hb : Nat.beq i j with
    | false => rfl
    | true => exact absurd (Nat.eq_of_beq_eq_true hb) h
  simp [RS.put, cfind, this]

theorem cfind_put_self {R : RS} {i : Nat} {dst : Option Nat} {own L : Chain} {v : TV} {δ : Heap} : cfind (R.put i dst own L v δ).ch i = some own := by
  simp [RS.put, cfind]

theorem Good.up {R : RS} {i : Nat} {dst : Option Nat} {own L : Chain} {v : TV} {δ : Heap} {c : Chain} (h : Good R.ch c) (hl : Low i c) : Good (R.put i dst own L v δ).ch c := by
  induction h with
  | nil => exact .nil
  | cons j b c h hg ih =>
    have hj : j < i := hl (j, b) List.mem_cons_self
    exact .cons j b c ((cfind_put (by omega)).trans h) (ih fun p hp => hl p (List.mem_cons_of_mem _ hp))

/-- An operation is done, or skipped. -/
theorem RInv.put {ops : List Oper} {t : List (Nat × TV)} {nx nt i : Nat} {R : RS} {a : Act} (hu : Uq ops nt) (inv : RInv X ops t nx nt S i R a N w) {o : Oper} (ho : ops[i]? = some o) {own L : Chain} {tv : TV} {v : Value} {δ : Heap} {N' : Names} {w' : World}
    (hw : WExt (OO N S) w w') (hn : NExt N N' w) (hnr : NR N' S w') (hh : HR N' S w' (δ ++ R.h)) (hf : ∀ b, nx + 32 * (i + 1) ≤ b → N' b = .unused)
    (hlow : Low i own) (hlowL : Low i L) (hgood : Good R.ch own) (hv : holds ops a.tmps L → RepT N' S w' tv v) (hund : ¬ holds ops a.tmps own → v = undef) (hsub : holds ops a.tmps own → holds ops a.tmps L) :
    RInv X ops t nx nt S (i + 1) (R.put i o.dst own L tv δ) (a.put o.dst v) N' w' := by
  have hp : ∀ {c : Chain}, Low i c → (holds ops (a.put o.dst v).tmps c ↔ holds ops a.tmps c) := fun hl => holds_put hu ho a v hl
  have hdlt : ∀ d, o.dst = some d → d < a.tmps.size := fun d hd => by rw [inv.size]; exact (hu i i o o d ho ho hd hd).2
  refine ⟨hnr, hh, hf, (put_size ..).trans inv.size, (put_defers ..).trans inv.def_, fun g xs hx => (inv.g g xs hx).keep hw (hn.oo S), fun n hrn => ?_, fun n c tv' hrn => ?_, fun n hrn => ?_, fun j c hc => ?_, fun c hc => ?_, fun c hc => ?_⟩
  · have hne : o.dst ≠ some n := fun e => by rw [e, rfind_put_self] at hrn; cases hrn
    rw [eval_put_ne a o.dst v n hne]
    rw [rfind_put hne] at hrn
    exact (inv.old n hrn).keep hw hn
  · by_cases hne : o.dst = some n
    · rw [hne, rfind_put_self] at hrn
      cases hrn
      refine ⟨hlowL.up (Nat.le_succ i), fun hc => ?_⟩
      have := eval_put_self a n v (hdlt n hne)
      rw [← hne] at this
      rw [this]
      exact hv ((hp hlowL).1 hc)
    · rw [rfind_put hne] at hrn
      obtain ⟨h1, h2⟩ := inv.new n c tv' hrn
      refine ⟨h1.up (Nat.le_succ i), fun hc => ?_⟩
      rw [eval_put_ne a o.dst v n hne]
      exact (h2 ((hp h1).1 hc)).keep hw hn
  · by_cases hne : o.dst = some n
    · exact ⟨i, o, Nat.lt_succ_self i, ho, hne⟩
    · rw [rfind_put hne] at hrn
      obtain ⟨j, oj, h1, h2, h3⟩ := inv.dst n hrn
      exact ⟨j, oj, Nat.lt_succ_of_lt h1, h2, h3⟩
  · by_cases hj : i = j
    · subst hj
      rw [cfind_put_self] at hc
      cases hc
      refine ⟨Nat.lt_succ_self i, hlow.up (Nat.le_succ i), hgood.up hlow, fun p d hp' hd => ?_⟩
      rw [ho] at hp'
      cases hp'
      rw [hd]
      have hself := eval_put_self a d v (hdlt d hd)
      rw [hd] at hp
      refine ⟨fun hc => ?_, L, tv, rfind_put_self, fun hc => (hp hlowL).2 (hsub ((hp hlow).1 hc))⟩
      rw [hself]
      exact hund fun h => hc ((hp hlow).2 h)
    · rw [cfind_put hj] at hc
      obtain ⟨h1, h2, h3, h4⟩ := inv.ch j c hc
      refine ⟨Nat.lt_succ_of_lt h1, h2.up (Nat.le_succ i), h3.up h2, fun p d hp' hd => ?_⟩
      obtain ⟨h5, c', v', h6, h7⟩ := h4 p d hp' hd
      have hne : o.dst ≠ some d := fun e => hj (hu i j o p d ho hp' e hd).1
      refine ⟨fun hc => ?_, c', v', (rfind_put hne).trans h6, fun hc => ?_⟩
      · rw [eval_put_ne a o.dst v d hne]
        exact h5 fun h => hc ((hp h2).2 h)
      · exact (hp (inv.new d c' v' h6).1).2 (h7 ((hp h2).1 hc))
  · obtain ⟨h1, h2⟩ := inv.kt c hc
    exact ⟨h1.up (Nat.le_succ i), (hp h1).2 h2⟩
  · obtain ⟨h1, h2⟩ := inv.kf c hc
    exact ⟨h1.up (Nat.le_succ i), fun h => h2 ((hp h1).1 h)⟩

section
variable {ops : List Oper} {t : List (Nat × TV)} {nx nt i : Nat} {R : RS} {a : Act}

theorem RInv.read (inv : RInv X ops t nx nt S i R a N w) {L : Chain} (hL : holds ops a.tmps L) (n : Nat) : RepT N S w (R.read t L n) (a.eval (.tmp n)) := by
  unfold RS.read
  cases hr : rfind R.r n with
  | none => exact inv.old n hr
  | some p =>
    obtain ⟨c, v⟩ := p
    cases hc : c.isEnd L || c.mem R.kt with
    | false => simp only [hc, cond_false]; exact .any _
    | true =>
      simp only [hc, cond_true]
      refine (inv.new n c v hr).2 ?_
      rcases Bool.or_eq_true _ _ ▸ hc with h | h
      · exact isEnd_holds h hL
      · exact (inv.kt c (Chain.mem_mem h)).2

theorem eval_bool {a : Act} {d : Nat} {b : Bool} : a.eval (.tmp d) = .bool b ↔ a.tmps[d]? = some (.bool b) := by
  simp only [Act.eval]
  rw [Array.getD_eq_getD_getElem?]
  cases a.tmps[d]? with
  | none => simp [undef]
  | some v => simp

theorem RInv.chain (inv : RInv X ops t nx nt S i R a N w) {o : Oper} {L : Chain} (h : R.chainAt o = some L) :
    Low i L ∧ Good R.ch L ∧ (Region.wanted o (yielded ops.toArray a.tmps) = true ↔ holds ops a.tmps L) := by
  unfold RS.chainAt at h
  unfold Region.wanted
  cases hg : o.guard with
  | none =>
    rw [hg] at h
    cases h
    exact ⟨Low.nil i, .nil, by simp [holds]⟩
  | some jw =>
    obtain ⟨j, b⟩ := jw
    rw [hg] at h
    simp only at h
    cases hc : cfind R.ch j with
    | none => rw [hc] at h; cases h
    | some c =>
      rw [hc] at h
      cases h
      obtain ⟨h1, h2, h3, h4⟩ := inv.ch j c hc
      refine ⟨fun p hp => ?_, .cons j b c hc h3, ?_⟩
      · rcases List.mem_cons.1 hp with rfl | hp
        · exact h1
        · exact h2 p hp
      · have e : ((yielded ops.toArray a.tmps j == some b) = true) ↔ hold1 ops a.tmps j b := by rw [beq_iff_eq]; exact yielded_iff
        simp only [holds]
        rw [e]
        refine ⟨fun hh => ⟨hh, ?_⟩, fun hh => hh.1⟩
        obtain ⟨d, hd, htm⟩ := hh
        cases hoj : ops[j]? with
        | none => rw [hoj] at hd; cases hd
        | some oj =>
          rw [hoj] at hd
          refine Classical.byContradiction fun hn => ?_
          have := (h4 oj d hoj hd).1 hn
          rw [eval_bool.2 htm] at this
          cases this

theorem RInv.cond (inv : RInv X ops t nx nt S i R a N w) : ∀ {L : Chain} {p : Prop}, Good R.ch L → R.cond ops L = some p → (p ↔ holds ops a.tmps L)
  | [], p, _, h => by cases h; exact Iff.rfl
  | (j, b) :: r, p, hg, h => by
    cases hg with | cons _ _ _ hc hg =>
    simp only [RS.cond] at h
    split at h
    · rename_i b' q hgt hq
      cases h
      have ih := inv.cond hg hq
      simp only [holds, ih]
      obtain ⟨h1, h2, h3, h4⟩ := inv.ch j r hc
      unfold guardTV at hgt
      split at hgt
      · rename_i oj hoj
        rw [lnth_get] at hoj
        split at hgt
        · rename_i d hd
          obtain ⟨h5, c', v', h6, h7⟩ := h4 oj d hoj hd
          rw [h6] at hgt
          simp only at hgt
          subst hgt
          have hv : holds ops a.tmps r → a.tmps[d]? = some (.bool b') := fun hr => eval_bool.1 (rep_lit ((inv.new d c' _ h6).2 (h7 hr)))
          refine ⟨fun ⟨e, hr⟩ => ⟨⟨d, by rw [hoj]; exact hd, by rw [hv hr, e]⟩, hr⟩, fun ⟨⟨d', hd', hh⟩, hr⟩ => ⟨?_, hr⟩⟩
          rw [hoj] at hd'
          have : d' = d := by simpa [hd] using hd'.symm
          subst this
          rw [hv hr] at hh
          simpa using hh
        · cases hgt
      · cases hgt
    · cases h

theorem opIdx_spec {s : Nat} : ∀ {n j : Nat}, opIdx ops s n = some j → j < n ∧ ∃ o, ops[j]? = some o ∧ o.dst = some s
  | 0, j, h => by cases h
  | n + 1, j, h => by
    simp only [opIdx] at h
    have rec_ : opIdx ops s n = some j → j < n + 1 ∧ ∃ o, ops[j]? = some o ∧ o.dst = some s := fun h => by
      obtain ⟨h1, h2⟩ := opIdx_spec h
      exact ⟨Nat.lt_succ_of_lt h1, h2⟩
    split at h
    · rename_i p hp
      split at h
      · rename_i d hd
        cases hb : Nat.beq d s with
        | true =>
          rw [hb] at h
          cases h
          rw [lnth_get] at hp
          exact ⟨Nat.lt_succ_self _, p, hp, by rw [hd, Nat.eq_of_beq_eq_true hb]⟩
        | false => rw [hb] at h; exact rec_ h
      · exact rec_ h
    · exact rec_ h

theorem run_pick {P : Program} {a : Act} {o : Oper} {c x y : Operand} (ho : o.op = .pick c x y) {b : Bool} (hc : a.eval c = .bool b) : (execOp a.eval o).run P w = .ok (.value (if b then a.eval x else a.eval y)) w := by
  unfold execOp
  rw [ho]
  simp [hc, asBool]

theorem RInv.pick (inv : RInv X ops t nx nt S i R a N w) {L : Chain} (hL : holds ops a.tmps L) {o : Oper} {c x y : Operand} (ho : o.op = .pick c x y) :
    (aPick X ops R t L i c x y).Sound X.P N S w (execOp a.eval o) := by
  have hrd : ∀ {L : Chain}, holds ops a.tmps L → ∀ x, RepT N S w (X.opd (R.read t L) x) (a.eval x) := fun hL x => rep_opd (inv.read hL) inv.g x
  unfold aPick
  split
  · rename_i s
    split
    · rename_i j hj
      obtain ⟨h1, oj, h2, h3⟩ := opIdx_spec hj
      have hc : ∀ b, a.eval (.tmp s) = .bool b → holds ops a.tmps ((j, b) :: L) := fun b hb => ⟨⟨s, by rw [h2]; exact h3, eval_bool.1 hb⟩, hL⟩
      have hc' : ∀ b, holds ops a.tmps ((j, b) :: L) → a.eval (.tmp s) = .bool b := fun b ⟨⟨d, hd, he⟩, _⟩ => by
        rw [h2] at hd
        have : d = s := by simpa [h3] using hd.symm
        subst this
        exact eval_bool.2 he
      cases hm : Chain.mem ((j, true) :: L) R.kt with
      | true =>
        simp only [cond_true]
        have hh := (inv.kt _ (Chain.mem_mem hm)).2
        exact goes_pure inv.nr (run_pick ho (hc' true hh)) (hrd hh x)
      | false =>
      simp only [cond_false]
      cases hm2 : Chain.mem ((j, false) :: L) R.kt with
      | true =>
        simp only [cond_true]
        have hh := (inv.kt _ (Chain.mem_mem hm2)).2
        exact goes_pure inv.nr (run_pick ho (hc' false hh)) (hrd hh y)
      | false =>
      simp only [cond_false]
      split
      · rename_i b u v hb hu hv
        have hbv := rep_lit (hb ▸ hrd hL (.tmp s))
        refine goes_pure inv.nr (run_pick ho hbv) ?_
        cases b with
        | true => have q := hrd (hc true hbv) x; rw [hu] at q; exact q
        | false => have q := hrd (hc false hbv) y; rw [hv] at q; exact q
      · rename_i b u hb hu _
        have hbv := rep_lit (hb ▸ hrd hL (.tmp s))
        intro hp
        subst hp
        refine goes_pure inv.nr (run_pick ho hbv) ?_
        have q := hrd (hc true hbv) x; rw [hu] at q; exact q
      · rename_i b v hb hv _
        have hbv := rep_lit (hb ▸ hrd hL (.tmp s))
        intro hp
        subst hp
        refine goes_pure inv.nr (run_pick ho hbv) ?_
        have q := hrd (hc false hbv) y; rw [hv] at q; exact q
      · trivial
    · trivial
  · trivial

theorem RInv.eval (hX : XOk X) (inv : RInv X ops t nx nt S i R a N w) {L : Chain} (hL : holds ops a.tmps L) (o : Oper) :
    (evalR X ops R t L (nx + 32 * i) i o.op).Sound X.P N S w (execOp a.eval o) := by
  unfold evalR
  split
  · rename_i c x y ho
    exact inv.pick hL ho
  · exact evalOp_sound hX inv.nr inv.hr inv.g (inv.fresh _ (Nat.le_refl _)) (inv.read hL) o

/-- What the walk may do with memory. -/
structure Frm (N : Names) (w : World) (N' : Names) (w' : World) : Prop where
  ext : WExt (owned N) w w'
  own : ∀ k, k < w.heap.size → owned N' k → owned N k
  fx : Fx N N'

theorem Fx.refl (N : Names) : Fx N N := fun _ _ => .inr (.inl rfl)
theorem Fx.trans {N N' N'' : Names} (h : Fx N N') (h' : Fx N' N'') : Fx N N'' := fun c hc => by
  rcases h c hc with e | e | e
  · exact .inl e
  · rw [← e]; exact h' c hc
  · rcases h' c hc with f | f | f
    · rw [e] at f; cases f
    · exact .inr (.inr (f.trans e))
    · exact .inr (.inr f)

theorem Frm.refl (N : Names) (w : World) : Frm N w N w := ⟨.refl _ _, fun _ _ h => h, .refl N⟩

theorem Frm.trans {N N' N'' : Names} {w w' w'' : World} (h : Frm N w N' w') (h' : Frm N' w' N'' w'') : Frm N w N'' w'' :=
  ⟨h.ext.trans h'.ext h.own, fun k hk ho => h.own k hk (h'.own k (Nat.lt_of_lt_of_le hk h.ext.size) ho), h.fx.trans h'.fx⟩

theorem dOk_dom {base : Nat} {δ : Heap} (h : dOk base δ = true) {b : Nat} (hd : dom δ b) : b ≤ base := by
  unfold dom at hd
  induction δ with
  | nil => simp [hlook] at hd
  | cons p r ih =>
    obtain ⟨c, x⟩ := p
    simp only [dOk, List.all_cons, Bool.and_eq_true] at h
    simp only [hlook] at hd
    cases hb : Nat.beq c b with
    | true => rw [← Nat.eq_of_beq_eq_true hb]; exact Nat.le_of_ble_eq_true h.1
    | false => rw [hb] at hd; exact ih h.2 hd

/-- What an operation that goes hands on. -/
theorem RInv.goes (hu : Uq ops nt) (inv : RInv X ops t nx nt S i R a N w) {o : Oper} (ho : ops[i]? = some o) {L : Chain} (hlow : Low i L) (hgood : Good R.ch L) (hL : holds ops a.tmps L) {tv : TV} {δ : Heap} (hd : dOk (nx + 32 * i) δ = true)
    {next : Act → World → Prop} {Q : Exit → Act → World → Prop} (hg : OpGoes X.P N S w (execOp a.eval o) tv δ)
    (hn : ∀ a' N' w', Frm N w N' w' → (∀ c, (c = [] ∨ c = L) → RInv X ops t nx nt S (i + 1) (R.put i o.dst L c tv δ) a' N' w') → next a' w') : o.wp X.P a w next Q := by
  obtain ⟨v, w', N', hrun, hrep, hst⟩ := hg
  have hfr : Frm N w N' w' := ⟨hst.ext.mono fun _ _ hc => chg_owned hc, hst.nx.own, fun c _ => hst.nx.nm c⟩
  have key := hn (a.put o.dst v) N' w' hfr fun c hc => inv.put hu ho hst.oo hst.nx hst.nr (hst.hr inv.nr inv.hr) (fun b hb => ?_) hlow (by rcases hc with rfl | rfl; exact Low.nil i; exact hlow) hgood (fun _ => hrep) (fun hn => absurd hL hn) (fun _ => by rcases hc with rfl | rfl; exact trivial; exact hL)
  · unfold Oper.wp
    rcases hrun with hrun | ⟨hrun, rfl⟩
    · rw [hrun]; exact key
    · rw [hrun]; exact key
  · rw [hst.same b fun hdm => by have := dOk_dom hd hdm; omega]
    exact inv.fresh b (by omega)

theorem RInv.arun (hX : XOk X) (hu : Uq ops nt) (inv : RInv X ops t nx nt S i R a N w) {o : Oper} (ho : ops[i]? = some o) {L : Chain} (hlow : Low i L) (hgood : Good R.ch L) (hL : holds ops a.tmps L) {k : RS → Prop}
    {next : Act → World → Prop} {Q : Exit → Act → World → Prop} (h : Abs.arun X ops t (nx + 32 * i) i o R L k)
    (hn : ∀ R' a' N' w', k R' → Frm N w N' w' → RInv X ops t nx nt S (i + 1) R' a' N' w' → next a' w') : o.wp X.P a w next Q := by
  have hs := inv.eval hX hL o
  unfold Abs.arun at h
  split at h
  · rename_i v δ he
    rw [he] at hs
    cases hd : dOk (nx + 32 * i) δ with
    | false => rw [hd] at h; exact h.elim
    | true =>
      rw [hd] at h
      exact inv.goes hu ho hlow hgood hL hd hs fun a' N' w' hf hi => hn _ a' N' w' h hf (hi [] (.inl rfl))
  · rename_i p v δ he
    rw [he] at hs
    cases hd : dOk (nx + 32 * i) δ with
    | false => rw [hd] at h; exact h.elim
    | true =>
      rw [hd] at h
      obtain ⟨hp, hk⟩ := h
      exact inv.goes hu ho hlow hgood hL hd (hs hp) fun a' N' w' hf hi => hn _ a' N' w' hk hf (hi [] (.inl rfl))
  · rename_i p he
    rw [he] at hs
    obtain ⟨b, hb, hrun⟩ := hs
    exact inv.goes hu ho hlow hgood hL (δ := []) rfl (goes_pure inv.nr hrun (rep_mk rfl)) fun a' N' w' hf hi => hn _ a' N' w' (h b hb) hf (hi [] (.inl rfl))
  · rename_i f args he
    rw [he] at hs
    have hok : callOk X.P f := by
      cases h with
      | mk Q hT hk => exact hT.1
      | hand _ _ _ _ _ _ _ hT _ => exact hT.1
    obtain ⟨vs, hrun, hrep⟩ := hs hok
    obtain ⟨_, hcall⟩ := call_sound h inv.nr inv.hr inv.g (fun b hb _ => inv.fresh b hb) hrep
    unfold Oper.wp
    rw [hrun]
    show Calls X.P f vs.toArray w _
    refine hcall.mono ?_
    rintro e w' ⟨v, N', H, r, rfl, hk, h1, h2, h3, h4, h5, h6⟩
    exact hn _ _ N' w' hk ⟨h5, h4.own, fun c _ => h4.nm c⟩ (inv.put hu ho (h5.mono fun _ _ ho => .inl ho) h4 h1 h2 (fun b hb => h6 b (inv.fresh b (by omega)) (by omega)) hlow (Low.nil i) hgood (fun _ => h3) (fun hc => absurd hL hc) (fun _ => trivial))
  · exact h.elim

theorem RInv.skip (hu : Uq ops nt) (inv : RInv X ops t nx nt S i R a N w) {o : Oper} (ho : ops[i]? = some o) {L c : Chain} (hc : c = [] ∨ c = L) (hlow : Low i L) (hgood : Good R.ch L) (hL : ¬ holds ops a.tmps L) {tv : TV} (ht : c = [] → tv = .any) :
    RInv X ops t nx nt S (i + 1) (R.put i o.dst L c tv []) (a.put o.dst undef) N w := by
  refine inv.put hu ho (.refl _ _) (.refl _ _) inv.nr inv.hr (fun b hb => inv.fresh b (by omega)) hlow (by rcases hc with rfl | rfl; exact Low.nil i; exact hlow) hgood (fun h => ?_) (fun _ => rfl) (fun h => absurd h hL)
  rcases hc with rfl | rfl
  · rw [ht rfl]; exact .any _
  · exact absurd h hL

theorem RInv.astep (hX : XOk X) (hu : Uq ops nt) (inv : RInv X ops t nx nt S i R a N w) {o : Oper} (ho : ops[i]? = some o) {k : RS → Prop}
    {next : Act → World → Prop} {Q : Exit → Act → World → Prop} (h : Abs.astep X ops t (nx + 32 * i) i o R k)
    (hn : ∀ R' a' N' w', k R' → Frm N w N' w' → RInv X ops t nx nt S (i + 1) R' a' N' w' → next a' w') :
    if Region.wanted o (yielded ops.toArray a.tmps) then o.wp X.P a w next Q else next (a.put o.dst undef) w := by
  unfold Abs.astep at h
  split at h
  · exact h.elim
  rename_i L hL
  obtain ⟨hlow, hgood, hwant⟩ := inv.chain hL
  have done : ∀ {c : Chain}, (c = [] ∨ c = L) → ∀ {tv : TV}, (c = [] → tv = .any) → ¬ holds ops a.tmps L → k (R.put i o.dst L c tv []) → (if Region.wanted o (yielded ops.toArray a.tmps) then o.wp X.P a w next Q else next (a.put o.dst undef) w) := by
    intro c hc tv ht hnot hk
    have : ¬ Region.wanted o (yielded ops.toArray a.tmps) = true := fun hw => hnot (hwant.1 hw)
    rw [if_neg this]
    exact hn _ _ N w hk (.refl _ _) (inv.skip hu ho hc hlow hgood hnot ht)
  have go : holds ops a.tmps L → o.wp X.P a w next Q → (if Region.wanted o (yielded ops.toArray a.tmps) then o.wp X.P a w next Q else next (a.put o.dst undef) w) := by
    intro hh hk
    rw [if_pos (hwant.2 hh)]
    exact hk
  cases hends : Chain.ends R.kf L with
  | true =>
    rw [hends] at h
    obtain ⟨c, hc, himp⟩ := ends_holds (ops := ops) (tm := a.tmps) hends
    exact done (.inl rfl) (fun _ => rfl) (fun hh => (inv.kf c hc).2 (himp hh)) h
  | false =>
  rw [hends] at h
  simp only [cond_false] at h
  cases hkt : L.beq [] || Chain.mem L R.kt with
  | true =>
    rw [hkt] at h
    have hh : holds ops a.tmps L := by
      rcases Bool.or_eq_true _ _ ▸ hkt with h1 | h1
      · rw [Chain.beq_eq h1]; exact trivial
      · exact (inv.kt L (Chain.mem_mem h1)).2
    exact go hh (inv.arun hX hu ho hlow hgood hh h hn)
  | false =>
  rw [hkt] at h
  simp only [cond_false] at h
  split at h
  · exact h.elim
  rename_i c hcond
  have hiff := inv.cond hgood hcond
  by_cases hh : holds ops a.tmps L
  · refine go hh ?_
    have hs := inv.eval hX hh o
    split at h
    · rename_i v he
      rw [he] at hs
      exact inv.goes hu ho hlow hgood hh (δ := []) rfl hs fun a' N' w' hf hi => hn _ a' N' w' h hf (hi L (.inr rfl))
    · rename_i p v he
      rw [he] at hs
      obtain ⟨hp, hk⟩ := h
      exact inv.goes hu ho hlow hgood hh (δ := []) rfl (hs (hp (hiff.2 hh))) fun a' N' w' hf hi => hn _ a' N' w' hk hf (hi L (.inr rfl))
    · have inv' : RInv X ops t nx nt S i { R with kt := L :: R.kt } a N w := ⟨inv.nr, inv.hr, inv.fresh, inv.size, inv.def_, inv.g, inv.old, inv.new, inv.dst, inv.ch, fun c hc => by
        rcases List.mem_cons.1 hc with rfl | hc
        · exact ⟨hlow, hh⟩
        · exact inv.kt c hc, inv.kf⟩
      exact inv'.arun hX hu ho hlow hgood hh (h.1 (hiff.2 hh)) hn
  · split at h
    · exact done (.inr rfl) (fun e => by subst e; exact absurd trivial hh) hh h
    · exact done (.inr rfl) (fun e => by subst e; exact absurd trivial hh) hh h.2
    · have inv' : RInv X ops t nx nt S i { R with kf := L :: R.kf } a N w := ⟨inv.nr, inv.hr, inv.fresh, inv.size, inv.def_, inv.g, inv.old, inv.new, inv.dst, inv.ch, inv.kt, fun c hc => by
        rcases List.mem_cons.1 hc with rfl | hc
        · exact ⟨hlow, hh⟩
        · exact inv.kf c hc⟩
      have : ¬ Region.wanted o (yielded ops.toArray a.tmps) = true := fun hw => hh (hwant.1 hw)
      rw [if_neg this]
      exact hn _ _ N w (h.2 fun hc => hh (hiff.1 hc)) (.refl _ _) (inv'.skip hu ho (.inl rfl) hlow hgood hh (fun _ => rfl))

end

theorem areg_sound (hX : XOk X) {ops : List Oper} {t : List (Nat × TV)} {nx nt : Nat} (hu : Uq ops nt) {K : RS → Prop} {Q : Exit → Act → World → Prop} :
    ∀ (rest : List Oper) (i : Nat) (R : RS) (a : Act) (N : Names) (w : World), ops.drop i = rest → i ≤ ops.length → RInv X ops t nx nt S i R a N w → areg X ops t nx rest i R K →
      (∀ R' a' N' w', K R' → Frm N w N' w' → RInv X ops t nx nt S ops.length R' a' N' w' → Q .normal a' w') → wpOps X.P ops.toArray Q (List.range' i rest.length) a w
  | [], i, R, a, N, w, hd, hle, inv, h, hk => by
    have hi : ops.length ≤ i := by simpa using hd
    have : i = ops.length := by omega
    subst this
    exact hk R a N w h (.refl _ _) inv
  | o :: rest, i, R, a, N, w, hd, hle, inv, h, hk => by
    have hlt : i < ops.length := by
      rcases Nat.lt_or_ge i ops.length with h1 | h1
      · exact h1
      · rw [List.drop_eq_nil_of_le h1] at hd; cases hd
    have ho : ops[i]? = some o := by
      have := congrArg (·[0]?) hd
      simpa using this
    have hd' : ops.drop (i + 1) = rest := by
      have := congrArg (List.drop 1) hd
      simpa using this
    simp only [List.length_cons, List.range'_succ, wpOps, List.getElem?_toArray, ho]
    have key := inv.astep hX hu (Q := Q) (next := wpOps X.P ops.toArray Q (List.range' (i + 1) rest.length)) ho h fun R' a' N' w' hk' hf hi =>
      areg_sound hX hu rest (i + 1) R' a' N' w' hd' hlt hi hk' fun R'' a'' N'' w'' h1 h2 h3 => hk R'' a'' N'' w'' h1 (hf.trans h2) h3
    split
    · rename_i hw
      rw [if_pos hw] at key
      exact .inl key
    · rename_i hw
      rw [if_neg hw] at key
      exact key

end
end Go.Abs
