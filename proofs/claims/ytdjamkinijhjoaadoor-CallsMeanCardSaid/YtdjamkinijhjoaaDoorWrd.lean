/-
  Plain words on 64-bit integers used by the contracts: what two numbers come to under each arithmetic instruction.
-/
import Derived.WalkKit
import Derived.RowKit
namespace Go.Proofs.YtdjamkinijhjoaaDoor
open Go.RowKit

theorem i64_and63 (n : Int) : bits .and .i64 n 63 = n % 64 := by
  have h127 : (BitVec.ofInt 64 63).toNat = 2 ^ 6 - 1 := by decide
  have key : (BitVec.ofInt 64 n &&& BitVec.ofInt 64 63).toNat = (n % ((2 ^ 64 : Nat) : Int)).toNat % 2 ^ 6 := by
    rw [BitVec.toNat_and, BitVec.toNat_ofInt, h127, Nat.and_two_pow_sub_one_eq_mod]
  show IntKind.i64.wrap ((BitVec.ofInt 64 n &&& BitVec.ofInt 64 63).toNat : Nat) = n % 64
  rw [key, IntKind.wrap_i64]
  omega

/-- behind a callee that made memory alone all old cells and marks read as before -/
theorem bcell {W w1 : World} (hb : Below W.heap.size W w1) : (∀ b o, b < W.heap.size → w1.cell? ⟨b, o, none⟩ = W.cell? ⟨b, o, none⟩) ∧ (∀ b o, b < W.heap.size → w1.frozen? ⟨b, o, none⟩ = W.frozen? ⟨b, o, none⟩) ∧ W.heap.size ≤ w1.heap.size :=
  ⟨fun b o h => hb.cell (p := ⟨b, o, none⟩) h, fun b o h => hb.frozen (p := ⟨b, o, none⟩) h, hb.size⟩

theorem lt_of_cell {w : World} {b o : Nat} {v : Value} (h : w.cell? ⟨b, o, none⟩ = some v) : b < w.heap.size := by
  unfold World.cell? at h
  rcases Nat.lt_or_ge b w.heap.size with g | g
  · exact g
  · rw [Array.getElem?_eq_none_iff.2 g] at h
    cases h

theorem heap_here (w : World) (o : Obj) : (w.alloc o).heap[w.heap.size]? = some o := by
  show (w.heap.push o)[w.heap.size]? = _
  simp
theorem heap_at {w : World} {o : Obj} {k : Nat} (h : w.heap.size = k) : (w.alloc o).heap[k]? = some o := by
  subst h; exact heap_here w o
theorem heap_step {w : World} {o : Obj} {k : Nat} {x : Obj} (h : w.heap[k]? = some x) : (w.alloc o).heap[k]? = some x := by
  have hk : k < w.heap.size := by
    rcases Nat.lt_or_ge k w.heap.size with g | g
    · exact g
    · rw [Array.getElem?_eq_none_iff.2 g] at h; cases h
  rw [Below.heap_alloc w o k hk]; exact h
theorem heap_drew {w : World} {k : Nat} {x : Obj} (h : w.heap[k]? = some x) : w.drew.heap[k]? = some x := h
theorem heap_below {B : Nat} {w w' : World} {k : Nat} {x : Obj} (hb : Below B w w') (hk : k < B) (h : w.heap[k]? = some x) : w'.heap[k]? = some x := (hb.block k hk).trans h
theorem heap_grown {w w' : World} {r k : Nat} {x : Obj} (hb : w.grownBy w' (some r)) (hk : k ≠ r) (h : w.heap[k]? = some x) : w'.heap[k]? = some x := by
  refine (hb.block k ?_ (by simpa using hk)).trans h
  rcases Nat.lt_or_ge k w.heap.size with g | g
  · exact g
  · rw [Array.getElem?_eq_none_iff.2 g] at h; cases h

/-- a block known whole: each of its cells, none of them frozen -/
theorem blk {w : World} {k : Nat} {A : Array Value} {T : TypeId} (h : w.heap[k]? = some (.cells A T (0, 0))) : (∀ j, w.cell? ⟨k, j, none⟩ = A[j]?) ∧ (∀ j, w.frozen? ⟨k, j, none⟩ = false) := by
  constructor
  · intro j
    simp [World.cell?, h]
  · intro j
    simp [World.frozen?, h]

/-- a number of Go's int -/
def I64 (n : Int) : Prop := -9223372036854775808 ≤ n ∧ n ≤ 9223372036854775807

/-- what two numbers come to: the number, and whether there is one -/
def twoL (op a b : Int) : Int × Bool :=
  if op = 1 then (a, true)
  else if op = 2 then (wrap64 (a + b), true)
  else if op = 3 then (wrap64 (a - b), true)
  else if op = 4 then (wrap64 (a * b), true)
  else if op = 5 then (if b = 0 then (0, false) else (wrap64 (a.tdiv b), true))
  else if op = 6 then (if b = 0 then (0, false) else (a.tmod b, true))
  else if op = 7 then (bits .and .i64 a b, true)
  else if op = 8 then (bits .or .i64 a b, true)
  else if op = 9 then (bits .xor .i64 a b, true)
  else if op = 10 then (wrap64 (a * 2 ^ (b % 64).toNat), true)
  else if op = 11 then (a / 2 ^ (b % 64).toNat, true)
  else if op = 12 then (if a = b then 1 else 0, true)
  else if op = 13 then (if a = b then 0 else 1, true)
  else if op = 14 then (if a < b then 1 else 0, true)
  else if op = 15 then (if a ≤ b then 1 else 0, true)
  else if op = 16 then (wrap64 (-a), true)
  else (-1 - a, true)

end Go.Proofs.YtdjamkinijhjoaaDoor
