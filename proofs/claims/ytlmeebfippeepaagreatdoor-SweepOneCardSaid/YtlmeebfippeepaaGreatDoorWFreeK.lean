/- Room that is given back, in plain Lean. -/
import Derived.Test.YtlmeebfippeepaaGreatDoorWDrop
import Derived.Test.YtlmeebfippeepaaGreatDoorWPart
import Derived.Test.YtlmeebfippeepaaGreatDoorWHeap4
set_option linter.all false
set_option linter.unusedVariables false
set_option linter.unusedSimpArgs false
namespace Go.Abs
set_option maxRecDepth 8000

/-- The room of an object that is let go: its words are noughts. -/
def freeW (g : Hp) (a : Int) : List Int := splice g.w (a - 16).toNat (List.replicate (roomAt g.pages a).toNat (0 : Int))
/-- Its page's number. -/
def pgI (a : Int) : Int := a / 16 - 1
/-- What of a page's cells is free. -/
def outsH (g : Hp) (i : Int) : List Int := outOf (g.free.at_ (g.pages.getD i.toNat default).arg) (16 * (i + 1)) (16 * (i + 1) + 16) (g.free.at_ (g.pages.getD i.toNat default).arg).length
def staysH (g : Hp) (i : Int) : List Int := stayOf (g.free.at_ (g.pages.getD i.toNat default).arg) (16 * (i + 1)) (16 * (i + 1) + 16) (g.free.at_ (g.pages.getD i.toNat default).arg).length
/-- A page is given back, if that may be. -/
def backH (g : Hp) (i : Int) : Hp := if ((outsH g i).length : Int) = clsN (g.pages.getD i.toNat default).arg then { g with free := g.free.set_ (g.pages.getD i.toNat default).arg (staysH g i), pages := dropP g.pages i.toNat } else g
def pushH (g : Hp) (i a : Int) : Hp := { g with free := g.free.set_ (g.pages.getD i.toNat default).arg (g.free.at_ (g.pages.getD i.toNat default).arg ++ [a]) }
/-- An object's room is given back. -/
def freeH (g : Hp) (a : Int) : Hp := if headE g a = 0 then (if (g.pages.getD (pgI a).toNat default).kind = 2 then { g with w := freeW g a, pages := dropP g.pages (pgI a).toNat } else backH (pushH { g with w := freeW g a } (pgI a) a) (pgI a)) else Hp.zero

theorem nodup_le : ∀ {l m : List Int}, l.Nodup → (∀ x ∈ l, x ∈ m) → l.length ≤ m.length
  | [], _, _, _ => Nat.zero_le _
  | x :: l, m, h, hs => by
    rw [List.nodup_cons] at h
    have hx := hs x (List.mem_cons_self ..)
    have := nodup_le (m := m.erase x) h.2 fun y hy => (List.mem_erase_of_ne (fun e : y = x => h.1 (e ▸ hy))).2 (hs y (List.mem_cons_of_mem _ hy))
    rw [List.length_erase_of_mem hx] at this
    have := List.length_pos_of_mem hx
    simp; omega

theorem may_light {g : Hp} (h : mayH g [] = true) : (flats [g.free]).length ≤ 512 := by
  obtain ⟨h1, h2, h3, h4⟩ := mayH_of h
  refine Nat.le_trans (nodup_le h4 (m := cellStarts g.pages) fun x hx => ?_) (by unfold cellStarts; rw [List.length_map]; exact cellsAll_len _)
  obtain ⟨l, hl, hx⟩ := mem_flats.1 hx
  exact mem_starts.2 (by have := (listed_free (h2 l hl) hx).1; omega)

theorem may_at {g : Hp} (h : mayH g [] = true) (c : Int) : (g.free.at_ c).length ≤ 512 := by
  have := may_light h
  unfold flats Lists.flat at this
  simp at this
  unfold Lists.at_
  split
  · omega
  · split <;> omega

theorem head_drops {g : Hp} {a : Int} (h : headE g a = 0) : 0 ≤ pgI a ∧ Drops g.pages (pgI a).toNat := by
  obtain ⟨hm, hr, _⟩ := headE_of h
  obtain ⟨hmp, j, hj⟩ := cellOf_mem (roomAt_pos hr)
  have e : pgI a = (j : Int) := hj.div
  rw [e]
  refine ⟨by omega, hmp, hj.lt, ?_⟩
  rcases hj.kind with h | h
  · exact .inl h.1
  · exact .inr h.1

theorem head_room {g : Hp} {a : Int} (h : headE g a = 0) : mayW g.w = true ∧ 16 ≤ a ∧ 0 < roomAt g.pages a ∧ a + roomAt g.pages a ≤ 16 + g.w.length := by
  obtain ⟨hm, hr, _⟩ := headE_of h
  obtain ⟨hmw, hmp, hlen, _⟩ := shapedH_of (mayH_shaped hm)
  obtain ⟨_, j, hj⟩ := cellOf_mem (roomAt_pos hr)
  obtain ⟨_, hd⟩ := head_drops h
  have e : (pgI a).toNat = j := by have := hj.div; unfold pgI; omega
  rw [e] at hd
  have h1 := hj.lo
  have h2 := hj.hi
  have h3 := hj.lt
  have hb := hd.all.1
  refine ⟨hmw, by omega, hj.pos, ?_⟩
  rcases hj.kind with ⟨k1, k2, k3, k4, k5⟩ | ⟨k1, k2, k3, k4, k5⟩
  · have : a + roomAt g.pages a ≤ 16 * ((j : Int) + 2) := k4
    omega
  · have k4 : a = 16 * ((j : Int) + 1) := k4
    have k5 : roomAt g.pages a = (g.pages.getD j default).arg * 16 := k5
    unfold sizeP at hb
    rw [if_pos k1] at hb
    omega

theorem freeW_len {g : Hp} {a : Int} (h : headE g a = 0) : (freeW g a).length = g.w.length := by
  obtain ⟨_, z2, z3, z4⟩ := head_room h
  unfold freeW splice
  simp
  omega

end Go.Abs
