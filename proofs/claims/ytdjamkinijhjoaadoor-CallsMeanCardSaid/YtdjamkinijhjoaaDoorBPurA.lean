/-
  The contracts of pure.words, pure.May, turneryref5.WordsOf, turneryref5.PureEnds, turnerysame.Fault.
The contract of turneryref5.PureEnds.
The contract of pure.Ends.
-/
import Derived.Test.YtdjamkinijhjoaaDoorChkS
import Derived.Deep.RegionHeld3
import Derived.WalkKit
import Derived.WalkSpells
import Derived.WalkLawsBesides
import Derived.BigQuiet
import Derived.Deep.QuietTactic
namespace Go.Proofs.YtdjamkinijhjoaaDoor
open Go.RowKit

def mayB (op an bn : Int) (ar br : Bool) (words : Int) : Bool :=
  if op = 5 ∨ op = 6 then br || bn == 0
  else if op = 18 ∨ op = 19 then ar || decide (an < 0) || decide (words ≤ an)
  else false

theorem fault_any (c a : Int) (w : World) :
    Calls Tryd.prog 11 #[.int .i64 c, .int .i64 a] w fun e w' => e = .returned (.agg #[.int .i64 c, .int .i64 a]) ∧ w' = w.alloc (.cells #[.int .i64 c, .int .i64 a] 28) := by
  go_enter Tryd.func11, Tryd.ntmps11
  go_wp2
  refine bodyPost_ret ?_ rfl ⟨rfl, rfl⟩
  simp [results, Tryd.results11, go_sem]
end Go.Proofs.YtdjamkinijhjoaaDoor
namespace Go.Proofs.YtdjamkinijhjoaaDoor
open Go.RowKit

end Go.Proofs.YtdjamkinijhjoaaDoor
namespace Go.Proofs.YtdjamkinijhjoaaDoor
open Go.RowKit

/-- the instruction at a place of a unit, if it is one -/
def insAt (u : UniL) (k b i : Int) : Option InsL :=
  if k < 0 ∨ b < 0 ∨ i < 0 then none
  else match u.funcs[k.toNat]? with
  | none => none
  | some f => match f.blocks[b.toNat]? with
  | none => none
  | some x => x.list[i.toNat]?

/-- instruction by instruction: the unit's cells down to it -/
theorem insAt_some {u : UniL} {k b i : Int} {x : InsL} (h : insAt u k b i = some x) : ∃ (k' b' i' : Nat) (h1 : k' < u.funcs.length) (h2 : b' < u.funcs[k'].blocks.length) (h3 : i' < u.funcs[k'].blocks[b'].list.length), k = k' ∧ b = b' ∧ i = i' ∧ x = u.funcs[k'].blocks[b'].list[i'] := by
  unfold insAt at h
  split at h
  · cases h
  · rename_i hn
    split at h
    · cases h
    · rename_i f hf
      split at h
      · cases h
      · rename_i bl hb
        obtain ⟨h1, rfl⟩ := List.getElem?_eq_some_iff.1 hf
        obtain ⟨h2, rfl⟩ := List.getElem?_eq_some_iff.1 hb
        obtain ⟨h3, rfl⟩ := List.getElem?_eq_some_iff.1 h
        exact ⟨k.toNat, b.toNat, i.toNat, h1, h2, h3, by omega, by omega, by omega, rfl⟩
theorem insAt_none {u : UniL} {k b i : Int} (h : insAt u k b i = none) : k < 0 ∨ (u.funcs.length : Int) ≤ k ∨ ∃ (k' : Nat) (h1 : k' < u.funcs.length), k = k' ∧ (b < 0 ∨ (u.funcs[k'].blocks.length : Int) ≤ b ∨ ∃ (b' : Nat) (h2 : b' < u.funcs[k'].blocks.length), b = b' ∧ (i < 0 ∨ (u.funcs[k'].blocks[b'].list.length : Int) ≤ i)) := by
  rcases Int.lt_or_le k 0 with hk | hk
  · exact .inl hk
  rcases Int.lt_or_le k u.funcs.length with hk2 | hk2
  rotate_left
  · exact .inr (.inl hk2)
  refine .inr (.inr ⟨k.toNat, by omega, by omega, ?_⟩)
  rcases Int.lt_or_le b 0 with hb | hb
  · exact .inl hb
  rcases Int.lt_or_le b u.funcs[k.toNat].blocks.length with hb2 | hb2
  rotate_left
  · exact .inr (.inl hb2)
  refine .inr (.inr ⟨b.toNat, by omega, by omega, ?_⟩)
  rcases Int.lt_or_le i 0 with hi | hi
  · exact .inl hi
  rcases Int.lt_or_le i u.funcs[k.toNat].blocks[b.toNat].list.length with hi2 | hi2
  rotate_left
  · exact .inr hi2
  exfalso
  unfold insAt at h
  rw [if_neg (by omega), List.getElem?_eq_getElem (by omega)] at h
  simp only at h
  rw [List.getElem?_eq_getElem (by omega)] at h
  simp only at h
  rw [List.getElem?_eq_getElem (by omega)] at h
  cases h

theorem cell_set_ne {w : World} {b o b' o' : Nat} {v : Value} (h : ¬ b' = b) : (w.setCell ⟨b, o, none⟩ v).cell? ⟨b', o', none⟩ = w.cell? ⟨b', o', none⟩ :=
  World.cell?_of_block (Below.heap_setCell _ _ _ _ h)
theorem res_one_drew {w : World} {R : Nat} {T : TypeId} (h : w.heap[R]? = some (.cells #[.int .i64 0, .int .i64 0] T (0, 0))) (o1 : Obj) (e a : Int) (j : Nat) :
    (((w.setCell ⟨R, 0, none⟩ (.int .i64 e)).setCell ⟨R, 1, none⟩ (.int .i64 a)).alloc o1).drew.cell? ⟨R, j, none⟩ = (#[.int .i64 e, .int .i64 a] : Array Value)[j]? :=
  (blk (heap_drew (heap_step (heap_set (heap_set h 0 _) 1 _)))).1 j

end Go.Proofs.YtdjamkinijhjoaaDoor
