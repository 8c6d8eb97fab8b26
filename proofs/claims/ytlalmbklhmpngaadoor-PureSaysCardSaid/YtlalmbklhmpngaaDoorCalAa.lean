/-
  Plain: where each function stands in the order, and that what is called stands ahead.
-/
import Derived.Test.YtlalmbklhmpngaaDoorBCalO
namespace Go.Proofs.YtlalmbklhmpngaaDoor
open Go.RowKit

/-- where x stands among the first m, from 1; 0: not there -/
def atO (o : List Nat) (m x : Nat) : Nat := if x ∈ o.take m then o.idxOf x + 1 else 0
theorem atO_zero (o : List Nat) (x : Nat) : atO o 0 x = 0 := by simp [atO]
theorem atO_succ {o : List Nat} (hn : o.Nodup) {m : Nat} (hm : m < o.length) (x : Nat) : atO o (m + 1) x = if x = o[m] then m + 1 else atO o m x := by
  unfold atO
  rw [List.take_succ_eq_append_getElem hm]
  by_cases e : x = o[m]
  · have h1 : x ∈ o.take m ++ [o[m]] := List.mem_append_right _ (by simp [e])
    rw [if_pos h1, if_pos e, e, hn.idxOf_getElem m hm]
  · rw [if_neg e]
    by_cases h : x ∈ o.take m
    · rw [if_pos h, if_pos (List.mem_append_left _ h)]
    · rw [if_neg h, if_neg]
      intro hx
      rcases List.mem_append.1 hx with g | g
      · exact h g
      · exact e (List.mem_singleton.1 g)
theorem atO_le {o : List Nat} (hn : o.Nodup) : ∀ (m : Nat), m ≤ o.length → ∀ x, atO o m x ≤ m
  | 0, _, x => by rw [atO_zero]; exact Nat.le_refl _
  | m + 1, h, x => by
    rw [atO_succ hn h]
    have := atO_le hn m (by omega) x
    split <;> omega
theorem atO_at {o : List Nat} (hn : o.Nodup) {i : Nat} (hi : i < o.length) : atO o o.length o[i] = i + 1 := by
  unfold atO
  rw [List.take_length, if_pos (List.getElem_mem hi), hn.idxOf_getElem i hi]
/-- what m turns leave holds every function, when it is as long as the functions are many -/
theorem OrderOk.all {n : Nat} {E : Nat → Nat → Bool} {r : Nat → Nat} {o : List Nat} (h : OrderOk n E r o) (hl : o.length = n) {k : Nat} (hk : k < n) : k ∈ o := by
  rcases Decidable.em (k ∈ o) with g | g
  · exact g
  · have h2 : (k :: o).Nodup := List.nodup_cons.2 ⟨g, h.nodup⟩
    have := nodup_len (n := n) (o := k :: o) (fun x hx => by
      rcases List.mem_cons.1 hx with e | e
      · rw [e]; exact hk
      · exact h.low x e) h2
    simp at this
    omega
theorem OrderOk.at_pos {n : Nat} {E : Nat → Nat → Bool} {r : Nat → Nat} {o : List Nat} (h : OrderOk n E r o) (hl : o.length = n) {k : Nat} (hk : k < n) : 0 < atO o n k := by
  unfold atO
  rw [← hl, List.take_length, if_pos (h.all hl hk)]
  omega
theorem OrderOk.at_lt {n : Nat} {E : Nat → Nat → Bool} {r : Nat → Nat} {o : List Nat} (h : OrderOk n E r o) (hl : o.length = n) {k x : Nat} (hk : k < n) (hx : x < n) (he : E k x = true) (hr : r x ≠ r k) : atO o n x < atO o n k := by
  obtain ⟨i, hi, rfl⟩ := List.mem_iff_getElem.1 (h.all hl hk)
  obtain ⟨j, hj, rfl⟩ := List.mem_iff_getElem.1 (h.ahead i hi x hx he hr)
  have hj2 : j < o.length := by
    have := List.length_take_le i o
    rw [List.length_take] at hj
    omega
  have hji : j < i := by rw [List.length_take] at hj; omega
  have e : (o.take i)[j] = o[j] := List.getElem_take
  rw [e, ← hl, atO_at h.nodup hi, atO_at h.nodup hj2]
  omega
theorem orderU_ok (xs : List FunL) : OrderOk xs.length (edgeU xs) (ringN xs.length (tableU xs)) (orderU xs) := orderN_ok _ _ _ _
theorem orderU_len (xs : List FunL) : (orderU xs).length = xs.length := (reachU xs).order_len _ (Nat.le_refl _)
theorem rowTo_edge {xs : List FunL} {k x : Nat} (hk : k < xs.length) (h : (x : Int) ∈ rowTo xs[k] xs.length) : x < xs.length ∧ edgeU xs k x = true := by
  obtain ⟨⟨_, h1⟩, hc⟩ := rowTo_iff.1 h
  refine ⟨by omega, ?_⟩
  unfold edgeU
  rw [List.getElem?_eq_getElem hk]
  exact hc
end Go.Proofs.YtlalmbklhmpngaaDoor
