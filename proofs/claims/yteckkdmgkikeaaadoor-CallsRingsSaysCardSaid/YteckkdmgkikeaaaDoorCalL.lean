/-
  slices.Sort and slices.Compact of a row of numbers that the call itself has built.
-/
import Derived.Test.YteckkdmgkikeaaaDoorCalK
import Derived.Lib.OwnBridge
import Derived.Sort.OwnSortedInts
import Derived.WalkKit
import Derived.WalkSpells
import Derived.WalkLawsBesides
namespace Go.Proofs.YteckkdmgkikeaaaDoor
open Go.RowKit Go.Shelf Go.Lib Go.Sort

def sortL (zs : List Int) : List Int := zs.mergeSort fun x y => decide (x ≤ y)
theorem sortL_len (zs : List Int) : (sortL zs).length = zs.length := by unfold sortL; simp

theorem putRow_grown {w : World} {g q : Nat} {d : Array Int} : w.grownBy (putRow (Value.int .i64) (Sort.ahead w q) g 0 d) (some g) := by
  refine ⟨rfl, rfl, rfl, by simp [putRow, mapBlock, Sort.ahead], fun k _ hne => ?_⟩
  have : g ≠ k := fun e => hne (by rw [e])
  simp [putRow, mapBlock, Sort.ahead, Array.getElem?_modify, this]
theorem grow_grown {w : World} {os : Array Obj} : w.grownBy (grow w os) none := by
  refine ⟨rfl, rfl, rfl, by simp, fun k hk _ => ?_⟩
  rw [heap_grow_old _ _ hk]

theorem sort_own (B : Nat) (p : Option Addr) (c : Nat) (zs : List Int) (n : Nat) (w : World) (h : w.ownsRow B 3 1 (.slice p n c) n (zs.map (.int .i64))) (hn : n ≤ 1000000) :
    Calls Tryd.prog 95 #[.slice p n c] w fun e w' => e = .returned (.tuple #[]) ∧ w'.ownsRow B 3 1 (.slice p n c) n ((sortL zs).map (.int .i64)) ∧ w.grownBy w' (Value.slice p n c).ownBlock := by
  by_cases hv : (Value.slice p n c) = .slice none 0 0
  · cases hv
    have hz : zs = [] := by have := h.1; simpa using this
    subst hz
    refine (Tryd.slices_Sort_int_none none 0 w).mono ?_
    rintro e w' ⟨rfl, rfl⟩
    exact ⟨rfl, (by simpa [sortL] using h), ⟨rfl, rfl, rfl, Nat.le_refl _, fun _ _ _ => rfl⟩⟩
  · obtain ⟨g, cap, hg, hb, hlt, hc, hm, hl, hH⟩ := holds_of_ownsRow h hv
    cases hg
    subst hl
    refine (Tryd.slices_Sort_int g 0 c zs w hH hlt (by omega)).mono ?_
    rintro e w' ⟨rfl, q, os, rfl⟩
    have h1 := ownsRow_putRow (ys := sortL zs) (q := q) (k := zs.length) h (sortL_len zs) (Nat.le_refl _)
    have e1 : (sortL zs).take zs.length = sortL zs := by rw [← sortL_len zs]; exact List.take_length
    rw [e1] at h1
    exact ⟨rfl, h1.kept grow_grown (.inr (by simp [Value.ownBlock])), grownBy_sortedI _⟩

theorem compact_own (B : Nat) (p : Option Addr) (c : Nat) (zs : List Int) (n : Nat) (w : World) (h : w.ownsRow B 3 1 (.slice p n c) n (zs.map (.int .i64))) (hn : n ≤ 1000000) :
    Calls Tryd.prog 96 #[.slice p n c] w fun e w' => e = .returned (.slice p (Lib.compact zs).length c) ∧ w'.ownsRow B 3 1 (.slice p (Lib.compact zs).length c) (Lib.compact zs).length ((Lib.compact zs).map (.int .i64)) ∧ w.grownBy w' (Value.slice p n c).ownBlock := by
  by_cases hv : (Value.slice p n c) = .slice none 0 0
  · cases hv
    have hz : zs = [] := by have := h.1; simpa using this
    subst hz
    refine (Tryd.slices_Compact_int_empty none 0 w).mono ?_
    rintro e w' ⟨rfl, rfl⟩
    exact ⟨rfl, h, ⟨rfl, rfl, rfl, Nat.le_refl _, fun _ _ _ => rfl⟩⟩
  · obtain ⟨g, cap, hg, hb, hlt, hc, hm, hl, hH⟩ := holds_of_ownsRow h hv
    cases hg
    subst hl
    refine (Tryd.slices_Compact_int g 0 c zs w hH (by omega) hc).mono ?_
    rintro e w' ⟨rfl, q, rfl⟩
    have hle : (Lib.compact zs).length ≤ zs.length := by
      unfold Lib.compact compactUpTo
      rw [List.length_map]
      exact Nat.le_trans (List.length_filter_le _ _) (by simp)
    have h1 := ownsRow_putRow (ys := Lib.compact zs ++ List.replicate (zs.length - (Lib.compact zs).length) 0) (q := q) (k := (Lib.compact zs).length) h (by simp; omega) hle
    rw [List.take_left' rfl] at h1
    exact ⟨rfl, h1, putRow_grown⟩
end Go.Proofs.YteckkdmgkikeaaaDoor
