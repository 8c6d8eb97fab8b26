/-
  Plain: which blocks lead to which, as lists.
-/
import Derived.Test.YteckkdmgkikeaaaDoorDatD
namespace Go.Proofs.YteckkdmgkikeaaaDoor
open Go.RowKit



/-- the ways between blocks, in the order of the text: (to, from) -/
def waysOf (T : List (List Int)) : Nat → List (Nat × Nat)
  | 0 => []
  | i + 1 => waysOf T i ++ (T.getD i []).map fun t => (t.toNat, i)
/-- the blocks that lead to t -/
def rowOf (ps : List (Nat × Nat)) (t : Nat) : List Nat := (ps.filter (·.1 == t)).map (·.2)

theorem rowOf_same (ps : List (Nat × Nat)) (t i : Nat) : rowOf (ps ++ [(t, i)]) t = rowOf ps t ++ [i] := by
  simp [rowOf, List.filter_append]
theorem rowOf_other (ps : List (Nat × Nat)) {t u : Nat} (i : Nat) (h : u ≠ t) : rowOf (ps ++ [(t, i)]) u = rowOf ps u := by
  have h2 : (t == u) = false := by simp; omega
  simp [rowOf, List.filter_append, h2]
theorem rowOf_le (ps : List (Nat × Nat)) (t : Nat) : (rowOf ps t).length ≤ ps.length := by
  unfold rowOf; rw [List.length_map]; exact List.length_filter_le _ _
theorem waysOf_le (T : List (List Int)) (k n : Nat) (hk : k ≤ n) (h : ∀ i, i < n → (T.getD i []).length ≤ 2) : (waysOf T k).length ≤ 2 * k := by
  induction k with
  | zero => simp [waysOf]
  | succ k ih =>
    have := ih (by omega)
    have := h k (by omega)
    simp only [waysOf, List.length_append, List.length_map]
    omega
end Go.Proofs.YteckkdmgkikeaaaDoor
