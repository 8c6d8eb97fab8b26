/-
  Plain: a table of rows that grow by append, in a world.
-/
import Derived.Test.YteckkdmgkikeaaaDoorChkK
import Derived.Deep.OwnRows
import Derived.OwnWalk
namespace Go.Proofs.YteckkdmgkikeaaaDoor
open Go.RowKit

/-- block T is a table of n rows of numbers, each in its own memory from block B on; they read as ps says -/
structure Rows2 (w : World) (B T : Nat) (n : Nat) (ts ti : TypeId) (ps : List (Nat × Nat)) (f : Nat → Value) : Prop where
  tab : w.rowIs T ts n f
  row : ∀ j, j < n → w.ownsRow B ti 1 (f j) (rowOf ps j).length ((rowOf ps j).map fun i : Nat => .int .i64 (i : Int))
  two : ∀ j k, j < n → k < n → j ≠ k → (f j).ownBlock = none ∨ (f j).ownBlock ≠ (f k).ownBlock
  low : T < B

theorem Rows2.alloc {w : World} {B T n : Nat} {ts ti : TypeId} {ps : List (Nat × Nat)} {f : Nat → Value} (h : Rows2 w B T n ts ti ps f) (o : Obj) : Rows2 (w.alloc o) B T n ts ti ps f :=
  ⟨h.tab.alloc o, fun j hj => (h.row j hj).alloc o, h.two, h.low⟩
theorem Rows2.drew {w : World} {B T n : Nat} {ts ti : TypeId} {ps : List (Nat × Nat)} {f : Nat → Value} (h : Rows2 w B T n ts ti ps f) : Rows2 w.drew B T n ts ti ps f :=
  ⟨h.tab.drew, fun j hj => (h.row j hj).drew, h.two, h.low⟩

theorem Rows2.made (w : World) (n : Nat) (ts ti : TypeId) : Rows2 (w.alloc (.cells (madeCells #[.slice none 0 0] n) ts)) (w.heap.size + 1) w.heap.size n ts ti [] (fun _ => .slice none 0 0) :=
  ⟨World.rowIs_made w _ n ts, fun j _ => World.ownsRow_nil _ _ _ _, fun _ _ _ _ _ => .inl rfl, by omega⟩

theorem Rows2.put {w w' : World} {B T n : Nat} {ts ti : TypeId} {ps : List (Nat × Nat)} {f : Nat → Value} (h : Rows2 w B T n ts ti ps f) (hB : B ≤ w.heap.size) {t i : Nat} (ht : t < n) {v' : Value}
    (hown : w'.ownsRow B ti 1 v' ((rowOf ps t).length + 1) (((rowOf ps t).map fun i : Nat => .int .i64 (i : Int)) ++ [.int .i64 (i : Int)])) (hg : w.grownBy w' (f t).ownBlock)
    (hv : v'.ownBlock = (f t).ownBlock ∨ v'.ownBlock = some w.heap.size) :
    Rows2 (w'.setCell ⟨T, t, none⟩ v') B T n ts ti (ps ++ [(t, i)]) (fun j => if j = t then v' else f j) := by
  have hlow : ∀ j, j < n → ∀ k, (f j).ownBlock = some k → B ≤ k ∧ k < w.heap.size := fun j hj k hk => (h.row j hj).lt k hk
  have hT : some T ≠ (f t).ownBlock := fun e => by have := (hlow t ht T e.symm).1; have := h.low; omega
  have hTw : T < w.heap.size := by have := h.low; omega
  have keep : ∀ (v : Value) (m : Nat) (xs : List Value), w'.ownsRow B ti 1 v m xs → (w'.setCell ⟨T, t, none⟩ v').ownsRow B ti 1 v m xs := fun v m xs ho => by
    refine ho.kept (row := some T) ⟨rfl, rfl, rfl, by simp [World.setCell], fun k hk hne => ?_⟩ ?_
    · exact Below.heap_setCell _ _ _ _ (fun e => hne (by rw [e]))
    · cases hb : v.ownBlock with
      | none => exact .inl rfl
      | some k => exact .inr (fun e => by have h1 := (ho.lt k hb).1; have h2 := h.low; injection e with e; omega)
  refine ⟨?_, fun j hj => ?_, fun j k hj hk hjk => ?_, h.low⟩
  · exact (h.tab.of_block (hg.block T hTw hT)).set t v'
  · by_cases hjt : j = t
    · subst hjt
      simp only [if_true]
      rw [rowOf_same, List.length_append, List.map_append]
      exact keep _ _ _ hown
    · simp only [if_neg hjt]
      rw [rowOf_other _ _ hjt]
      exact keep _ _ _ ((h.row j hj).kept hg (h.two j t hj ht hjt))
  · show (if j = t then v' else f j).ownBlock = none ∨ (if j = t then v' else f j).ownBlock ≠ (if k = t then v' else f k).ownBlock
    by_cases hjt : j = t
    · have hkt : k ≠ t := fun e => hjk (hjt.trans e.symm)
      rw [if_pos hjt, if_neg hkt]
      rcases hv with e | e
      · rw [e]; exact h.two t k ht hk (fun e => hkt e.symm)
      · refine .inr (fun g => ?_)
        have := (hlow k hk _ (g.symm.trans e)).2
        omega
    · rw [if_neg hjt]
      by_cases hkt : k = t
      · rw [if_pos hkt]
        rcases hv with e | e
        · rw [e]; exact h.two j t hj ht hjt
        · cases hb : (f j).ownBlock with
          | none => exact .inl rfl
          | some q => exact .inr (fun g => by have := (hlow j hj q hb).2; rw [e] at g; injection g with g; omega)
      · rw [if_neg hkt]; exact h.two j k hj hk hjk
/-- behind a growing of one row the table reads as before -/
theorem Rows2.atTab {w w' : World} {B T n : Nat} {ts ti : TypeId} {ps : List (Nat × Nat)} {f : Nat → Value} (h : Rows2 w B T n ts ti ps f) {t : Nat} (ht : t < n) (hg : w.grownBy w' (f t).ownBlock) : w'.cell? ⟨T, t, none⟩ = some (f t) ∧ w'.frozen? ⟨T, t, none⟩ = false := by
  have hT : some T ≠ (f t).ownBlock := fun e => by have := ((h.row t ht).lt T e.symm).1; have := h.low; omega
  have hb := hg.block T h.tab.lt hT
  exact ⟨(World.cell?_of_block (a := ⟨T, t, none⟩) hb).trans (h.tab.cell ht), (World.frozen?_of_block (a := ⟨T, t, none⟩) hb).trans (h.tab.frozen t)⟩
end Go.Proofs.YteckkdmgkikeaaaDoor
