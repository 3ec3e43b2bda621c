/- How abstract values stand to the machine's: which value in which world is one. -/
import Derived.Test.YtlknhkocpjjkdaaAbsEval
import Derived.WalkKit
set_option linter.all false
set_option linter.unusedVariables false
set_option linter.unusedSimpArgs false
namespace Go.Abs

/-- A block of the call's own: its number in the heap, and how many elements its row bears. -/
structure RL where
  blk : Nat
  cap : Nat
  len : Nat
  esz : Nat

/-- What a name stands for: nothing yet; an empty slice without a block; nothing any more; a block. -/
inductive NS where
  | unused
  | nil
  | dead
  | live (r : RL)

abbrev Names := Nat → NS

def owned (N : Names) (k : Nat) : Prop := ∃ b r, N b = .live r ∧ r.blk = k

/-- The blocks that may still be written to: the call's own, and those of its callers. -/
def OO (N : Names) (S : Nat → Prop) (k : Nat) : Prop := owned N k ∨ S k

def CellsAt (w : World) (a : Addr) (vs : List Value) : Prop := ∀ j v, vs[j]? = some v → w.cell? ⟨a.block, a.off + j, none⟩ = some v

def maxN : Nat := 140737488355328

/-- O: the blocks that somebody may still write to. -/
inductive Rep (O : Nat → Prop) (w : World) : DV → Value → Prop
  | lit (v : Value) (h : v.oneCell' = true) : Rep O w (.lit v) v
  | slnil (k : EK) (a : Option Addr) (c : Nat) : Rep O w (.sl k []) (.slice a 0 c)
  | sl (k : EK) (l : List k.T) (a : Addr) (c : Nat) (vs : List Value) (ho : vs ≠ [] → ¬ O a.block) (hs : a.spot = none) (hc : l.length ≤ c) (hm : l.length ≤ maxN)
      (hl : (l.flatMap k.enc).length = vs.length) (hr : ∀ (i : Nat) (x : DV) (v : Value), (l.flatMap k.enc)[i]? = some x → vs[i]? = some v → Rep O w x v) (hw : CellsAt w a vs) : Rep O w (.sl k l) (.slice (some a) l.length c)
  | rp (xs : List DV) (a : Addr) (vs : List Value) (ho : vs ≠ [] → ¬ O a.block) (hs : a.spot = none)
      (hl : xs.length = vs.length) (hr : ∀ (i : Nat) (x : DV) (v : Value), xs[i]? = some x → vs[i]? = some v → Rep O w x v) (hw : CellsAt w a vs) : Rep O w (.rp xs) (.pointer (some a))
  | fn (f : Nat) (first caps : List DV) (vf vc : Array Value) (hf : first.length = vf.size) (hc : caps.length = vc.size)
      (hrf : ∀ (i : Nat) (x : DV) (v : Value), first[i]? = some x → vf[i]? = some v → Rep O w x v) (hrc : ∀ (i : Nat) (x : DV) (v : Value), caps[i]? = some x → vc[i]? = some v → Rep O w x v) : Rep O w (.fn f first caps) (.func (.func f) vf vc)

def RepL (O : Nat → Prop) (w : World) (xs : List DV) (vs : List Value) : Prop :=
  xs.length = vs.length ∧ ∀ (i : Nat) (x : DV) (v : Value), xs[i]? = some x → vs[i]? = some v → Rep O w x v

theorem Rep.one {O : Nat → Prop} {w : World} {x : DV} {v : Value} (h : Rep O w x v) : v.oneCell' = true := by
  cases h <;> first | assumption | rfl

/-- The worlds in which what is not to be written to stands as it did. -/
structure WExt (O : Nat → Prop) (w w' : World) : Prop where
  os : w'.os = w.os
  tape : w'.tape = w.tape
  output : w'.output = w.output
  size : w.heap.size ≤ w'.heap.size
  block : ∀ k, k < w.heap.size → ¬ O k → w'.heap[k]? = w.heap[k]?

theorem WExt.refl (O : Nat → Prop) (w : World) : WExt O w w := ⟨rfl, rfl, rfl, Nat.le_refl _, fun _ _ _ => rfl⟩

theorem WExt.mono {O O' : Nat → Prop} {w w' : World} (h : WExt O w w') (ho : ∀ k, k < w.heap.size → O k → O' k) : WExt O' w w' :=
  ⟨h.os, h.tape, h.output, h.size, fun k hk hn => h.block k hk fun hx => hn (ho k hk hx)⟩

theorem WExt.trans {O O' : Nat → Prop} {w w' w'' : World} (h : WExt O w w') (h' : WExt O' w' w'') (ho : ∀ k, k < w.heap.size → O' k → O k) : WExt O w w'' :=
  ⟨h'.os.trans h.os, h'.tape.trans h.tape, h'.output.trans h.output, Nat.le_trans h.size h'.size,
    fun k hk hn => (h'.block k (Nat.lt_of_lt_of_le hk h.size) fun hx => hn (ho k hk hx)).trans (h.block k hk hn)⟩

theorem WExt.cell {O : Nat → Prop} {w w' : World} (h : WExt O w w') {a : Addr} {v : Value} (hv : w.cell? a = some v) (ho : ¬ O a.block) : w'.cell? a = some v := by
  have hlt := World.block_lt_of_cell? w a hv
  rw [← hv]
  simp only [World.cell?, h.block a.block hlt ho]

/-- What it says of the world stays true while what is not in O is not written to; fewer may then be in O, of those that are there. -/
theorem Rep.keep {O O' : Nat → Prop} {w w' : World} (hw : WExt O w w') (ho : ∀ k, k < w.heap.size → O' k → O k) {x : DV} {v : Value} (h : Rep O w x v) : Rep O' w' x v := by
  have key : ∀ (a : Addr) (vs : List Value), (vs ≠ [] → ¬ O a.block) → CellsAt w a vs → (vs ≠ [] → ¬ O' a.block) ∧ CellsAt w' a vs := by
    intro a vs hn hcell
    refine ⟨fun hne hx => ?_, fun j v hv => ?_⟩
    · cases vs with
      | nil => exact hne rfl
      | cons v0 r => exact hn hne (ho _ (World.block_lt_of_cell? w ⟨a.block, a.off + 0, none⟩ (hcell 0 v0 rfl)) hx)
    · exact hw.cell (hcell j v hv) (hn (by intro e; subst e; simp at hv))
  induction h with
  | lit v h => exact .lit v h
  | slnil k a c => exact .slnil k a c
  | sl k l a c vs hn hs hc hm hl hr hcell ih => exact .sl k l a c vs (key a vs hn hcell).1 hs hc hm hl ih (key a vs hn hcell).2
  | rp xs a vs hn hs hl hr hcell ih => exact .rp xs a vs (key a vs hn hcell).1 hs hl ih (key a vs hn hcell).2
  | fn f first caps vf vc hf hc hrf hrc ihf ihc => exact .fn f first caps vf vc hf hc ihf ihc


theorem RepL.keep {O O' : Nat → Prop} {w w' : World} (hw : WExt O w w') (ho : ∀ k, k < w.heap.size → O' k → O k) {x : List DV} {v : List Value} (h : RepL O w x v) : RepL O' w' x v :=
  ⟨h.1, fun i x v hx hv => (h.2 i x v hx hv).keep hw ho⟩

inductive RepC (N : Names) (S : Nat → Prop) (w : World) : CV → Value → Prop
  | d (x : DV) (v : Value) (h : Rep (OO N S) w x v) : RepC N S w (.d x) v
  | ptr (b i off : Nat) (r : RL) (h : N b = .live r) : RepC N S w (.ptr b i off) (.pointer (some ⟨r.blk, i * r.esz + off, none⟩))
  | own0 (b : Nat) (a : Option Addr) (h : N b = .nil) : RepC N S w (.own b) (.slice a 0 0)
  | own (b : Nat) (r : RL) (h : N b = .live r) : RepC N S w (.own b) (.slice (some ⟨r.blk, 0, none⟩) r.len r.cap)
  | view0 (b o : Nat) (a : Option Addr) (h : N b ≠ .unused) : RepC N S w (.view b o 0) (.slice a 0 0)
  | view (b o n c : Nat) (r : RL) (h : N b = .live r) (h1 : o + c ≤ r.cap) (h2 : n ≤ c) (h3 : o + n ≤ r.len) : RepC N S w (.view b o n) (.slice (some ⟨r.blk, o * r.esz, none⟩) n c)
  | ptrD (b i off : Nat) (v : Value) (h : N b = .dead) (h1 : v.oneCell' = true) : RepC N S w (.ptr b i off) v
  | ownD (b : Nat) (v : Value) (h : N b = .dead) (h1 : v.oneCell' = true) : RepC N S w (.own b) v
  | viewD (b o n : Nat) (v : Value) (h : N b = .dead) (h1 : v.oneCell' = true) : RepC N S w (.view b o n) v
  | cl (f : Nat) (first caps : List CV) (vf vc : Array Value) (hf : first.length = vf.size) (hc : caps.length = vc.size)
      (hrf : ∀ (i : Nat) (x : CV) (v : Value), first[i]? = some x → vf[i]? = some v → RepC N S w x v) (hrc : ∀ (i : Nat) (x : CV) (v : Value), caps[i]? = some x → vc[i]? = some v → RepC N S w x v) : RepC N S w (.cl f first caps) (.func (.func f) vf vc)
  | any (v : Value) (h : v.oneCell' = true) : RepC N S w .any v

def RepCL (N : Names) (S : Nat → Prop) (w : World) (xs : List CV) (vs : List Value) : Prop :=
  xs.length = vs.length ∧ ∀ (i : Nat) (x : CV) (v : Value), xs[i]? = some x → vs[i]? = some v → RepC N S w x v

inductive RepT (N : Names) (S : Nat → Prop) (w : World) : TV → Value → Prop
  | c (x : CV) (v : Value) (h : RepC N S w x v) : RepT N S w (.c x) v
  | agg (xs : List CV) (vs : Array Value) (h : RepCL N S w xs vs.toList) : RepT N S w (.agg xs) (.agg vs)
  | tup (xs : List TV) (vs : Array Value) (hl : xs.length = vs.size) (h : ∀ (i : Nat) (x : TV) (v : Value), xs[i]? = some x → vs[i]? = some v → RepT N S w x v) : RepT N S w (.tup xs) (.tuple vs)
  | any (v : Value) : RepT N S w .any v

theorem RepC.one {N : Names} {S : Nat → Prop} {w : World} {x : CV} {v : Value} (h : RepC N S w x v) : v.oneCell' = true := by
  cases h <;> first | assumption | rfl | exact Rep.one (by assumption)

/-- Names once used stand for what they stood for, or for nothing. -/
structure NExt (N N' : Names) (w : World) : Prop where
  nm : ∀ b, N b = .unused ∨ N' b = N b ∨ N' b = .dead
  own : ∀ k, k < w.heap.size → owned N' k → owned N k

theorem NExt.refl (N : Names) (w : World) : NExt N N w := ⟨fun _ => .inr (.inl rfl), fun _ _ h => h⟩

theorem NExt.oo {N N' : Names} {w : World} (h : NExt N N' w) (S : Nat → Prop) : ∀ k, k < w.heap.size → OO N' S k → OO N S k :=
  fun k hk ho => ho.imp (h.own k hk) id

theorem RepC.keep {N N' : Names} {S : Nat → Prop} {w w' : World} (hw : WExt (OO N S) w w') (hn : NExt N N' w) {x : CV} {v : Value} (h : RepC N S w x v) : RepC N' S w' x v := by
  induction h with
  | d x v h => exact .d x v (h.keep hw (hn.oo S))
  | ptr b i off r h =>
    rcases hn.nm b with e | e | e
    · rw [h] at e; cases e
    · exact .ptr b i off r (e.trans h)
    · exact .ptrD b i off _ e rfl
  | own0 b a h =>
    rcases hn.nm b with e | e | e
    · rw [h] at e; cases e
    · exact .own0 b a (e.trans h)
    · exact .ownD b _ e rfl
  | own b r h =>
    rcases hn.nm b with e | e | e
    · rw [h] at e; cases e
    · exact .own b r (e.trans h)
    · exact .ownD b _ e rfl
  | view0 b o a h =>
    rcases hn.nm b with e | e | e
    · exact absurd e h
    · exact .view0 b o a (by rw [e]; exact h)
    · exact .viewD b o 0 _ e rfl
  | view b o n c r h h1 h2 h3 =>
    rcases hn.nm b with e | e | e
    · rw [h] at e; cases e
    · exact .view b o n c r (e.trans h) h1 h2 h3
    · exact .viewD b o n _ e rfl
  | ptrD b i off v h h1 =>
    rcases hn.nm b with e | e | e
    · rw [h] at e; cases e
    · exact .ptrD b i off v (e.trans h) h1
    · exact .ptrD b i off v e h1
  | ownD b v h h1 =>
    rcases hn.nm b with e | e | e
    · rw [h] at e; cases e
    · exact .ownD b v (e.trans h) h1
    · exact .ownD b v e h1
  | viewD b o n v h h1 =>
    rcases hn.nm b with e | e | e
    · rw [h] at e; cases e
    · exact .viewD b o n v (e.trans h) h1
    · exact .viewD b o n v e h1
  | cl f first caps vf vc hf hc hrf hrc ihf ihc => exact .cl f first caps vf vc hf hc ihf ihc
  | any v h => exact .any v h

theorem RepCL.keep {N N' : Names} {S : Nat → Prop} {w w' : World} (hw : WExt (OO N S) w w') (hn : NExt N N' w) {x : List CV} {v : List Value} (h : RepCL N S w x v) : RepCL N' S w' x v :=
  ⟨h.1, fun i x v hx hv => (h.2 i x v hx hv).keep hw hn⟩

theorem RepT.keep {N N' : Names} {S : Nat → Prop} {w w' : World} (hw : WExt (OO N S) w w') (hn : NExt N N' w) {x : TV} {v : Value} (h : RepT N S w x v) : RepT N' S w' x v := by
  induction h with
  | c x v h => exact .c x v (h.keep hw hn)
  | agg xs vs h => exact .agg xs vs (h.keep hw hn)
  | tup xs vs hl h ih => exact .tup xs vs hl ih
  | any v => exact .any v

/-- A block and what it holds. -/
def BR (N : Names) (S : Nat → Prop) (w : World) (b : Nat) : AB → Prop
  | .vars cs => ∃ r vs T, N b = .live r ∧ w.heap[r.blk]? = some (.cells vs T (0, 0)) ∧ RepCL N S w cs vs.toList
  | .data k l => l.length ≤ maxN ∧ ((N b = .nil ∧ l = []) ∨ ∃ r vs T, N b = .live r ∧ r.esz = k.size ∧ r.len = l.length ∧ l.length ≤ r.cap ∧
      w.heap[r.blk]? = some (.cells vs T (0, 0)) ∧ r.cap * k.size ≤ vs.size ∧ RepL (OO N S) w (l.flatMap k.enc) (vs.toList.take (l.length * k.size)))
  | .dead => N b = .dead

/-- Two names stand for two blocks, which are there, and no caller's. -/
structure NR (N : Names) (S : Nat → Prop) (w : World) : Prop where
  inj : ∀ b b' r r', N b = .live r → N b' = .live r' → r.blk = r'.blk → b = b'
  lt : ∀ b r, N b = .live r → r.blk < w.heap.size ∧ ¬ S r.blk
  sm : ∀ k, S k → k < w.heap.size

def HR (N : Names) (S : Nat → Prop) (w : World) (h : Heap) : Prop := ∀ b x, hlook h b = some x → BR N S w b x

def dom (δ : Heap) (b : Nat) : Prop := (hlook δ b).isSome = true

/-- The blocks of the names of δ. -/
def chg (N : Names) (δ : Heap) (k : Nat) : Prop := ∃ b r, dom δ b ∧ N b = .live r ∧ r.blk = k

/-- What an operation may do: change the blocks of the names in δ, and make new ones. -/
structure Step (N : Names) (S : Nat → Prop) (w : World) (N' : Names) (w' : World) (δ : Heap) : Prop where
  ext : WExt (chg N δ) w w'
  nr : NR N' S w'
  nx : NExt N N' w
  same : ∀ b, ¬ dom δ b → N' b = N b
  has : HR N' S w' δ

theorem chg_owned {N : Names} {δ : Heap} {k : Nat} (h : chg N δ k) : owned N k := let ⟨b, r, _, h1, h2⟩ := h; ⟨b, r, h1, h2⟩

theorem Step.oo {N N' : Names} {S : Nat → Prop} {w w' : World} {δ : Heap} (h : Step N S w N' w' δ) : WExt (OO N S) w w' :=
  h.ext.mono fun _ _ hc => .inl (chg_owned hc)

theorem BR.keep {N N' : Names} {S : Nat → Prop} {w w' : World} {b : Nat} {x : AB} (hw : WExt (OO N S) w w') (hn : NExt N N' w) (hb : N' b = N b)
    (hblk : ∀ r, N b = .live r → w'.heap[r.blk]? = w.heap[r.blk]?) (h : BR N S w b x) : BR N' S w' b x := by
  cases x with
  | vars cs =>
    obtain ⟨r, vs, T, h1, h2, h3⟩ := h
    exact ⟨r, vs, T, hb.trans h1, (hblk r h1).trans h2, h3.keep hw hn⟩
  | data k l =>
    obtain ⟨hm, h⟩ := h
    refine ⟨hm, ?_⟩
    rcases h with ⟨h1, h2⟩ | ⟨r, vs, T, h1, h2, h3, h4, h5, h6, h7⟩
    · exact .inl ⟨hb.trans h1, h2⟩
    · exact .inr ⟨r, vs, T, hb.trans h1, h2, h3, h4, (hblk r h1).trans h5, h6, h7.keep hw (hn.oo S)⟩
  | dead => exact hb.trans h

theorem hlook_append (δ h : Heap) (b : Nat) : hlook (δ ++ h) b = match hlook δ b with | some x => some x | none => hlook h b := by
  induction δ with
  | nil => rfl
  | cons p r ih =>
    obtain ⟨i, x⟩ := p
    simp only [List.cons_append, hlook]
    cases hb : Nat.beq i b with
    | true => rfl
    | false => simpa using ih

theorem Step.hr {N N' : Names} {S : Nat → Prop} {w w' : World} {δ h : Heap} (s : Step N S w N' w' δ) (hnr : NR N S w) (hh : HR N S w h) : HR N' S w' (δ ++ h) := by
  intro b x hx
  rw [hlook_append] at hx
  cases hd : hlook δ b with
  | some y =>
    rw [hd] at hx
    exact s.has b x (by rw [hd]; exact hx)
  | none =>
    rw [hd] at hx
    have hnd : ¬ dom δ b := by simp [dom, hd]
    refine (hh b x hx).keep s.oo s.nx (s.same b hnd) fun r hr => ?_
    refine s.ext.block r.blk (hnr.lt b r hr).1 ?_
    rintro ⟨b', r', hd', hr', he⟩
    have := hnr.inj b' b r' r hr' hr he
    subst this
    exact hnd hd'

/-- Where nothing is changed. -/
theorem Step.nop {N : Names} {S : Nat → Prop} {w : World} (h : NR N S w) : Step N S w N w [] :=
  ⟨.refl _ _, h, .refl _ _, fun _ _ => rfl, fun b x hx => by cases hx⟩

end Go.Abs
