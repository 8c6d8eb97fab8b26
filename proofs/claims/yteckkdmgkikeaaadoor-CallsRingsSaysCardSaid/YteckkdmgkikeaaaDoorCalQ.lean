/-
  The contract of calls.reach.
-/
import Derived.Test.YteckkdmgkikeaaaDoorCalP
import Derived.Test.YteckkdmgkikeaaaDoorCalF
import Derived.Laws.EntriesVeiled
import Derived.WalkKit
import Derived.WalkSpells
import Derived.WalkLawsBesides
namespace Go.Proofs.YteckkdmgkikeaaaDoor
open Go.RowKit

theorem infoBool4 : (Tryd.prog.info? 4).map (fun i => (i.zero, i.size, i.bytes)) = some (some (.bool false), 1, 1) := by kernel_rfl
theorem underBools4 : Tryd.prog.underlying 62 = some (.slice 4) := by kernel_rfl

set_option maxHeartbeats 1000000 in
theorem reach_any (gs : List (List Int)) (gp : Option Addr) (gc k : Nat) (w : World) (hl : gs.length ≤ 10) (hk : k < gs.length) (hS : SliceAt w 1 (IntsR w) gp gs) (hE : ∀ k (h : k < gs.length), ∀ x ∈ gs[k], 0 ≤ x ∧ x < (gs.length : Int)) :
    Calls Tryd.prog 57 #[.slice gp gs.length gc, .int .i64 k] w fun e w' => ∃ (T : Nat) (had : Nat → Bool), e = .returned (.slice (some ⟨T, 0, none⟩) gs.length gs.length) ∧ w'.rowIs T 4 gs.length (fun j => .bool (had j)) ∧ w.heap.size ≤ T ∧ (∀ j, j < gs.length → (had j = true ↔ Path gs.length (edgeL gs) k j)) ∧ Below w.heap.size w w' := by
  obtain ⟨i1, k1, k2, k3, k4⟩ := info_parts infoBool4
  have hmk := run_make_row 62 4 i1 (.bool false) underBools4 k1 k2 k3 rfl .i64 .i64 gs.length (by rw [k4]; omega) (by omega)
  have HS := hidI hS
  have HE := hidI hE
  clear hS hE
  go_enter Tryd.func57, Tryd.ntmps57
  go_wp2_with fail
  refine (visit_any gs gp gc w hl HS.out HE.out (w.heap.size + 1) (w.heap.size + 1 + 1) w.heap.size (w.heap.size + 1 + 1 + 1) (by omega) (by omega) (by omega) (by omega) (leftN gs.length (fun _ => false) + 1) (fun _ => false) _ k (by omega) hk ?_ ?_ ?_ ?_ ?_).mono ?_
  · repeat (first | with_reducible exact Below.refl _ _ | with_reducible exact HB3.out | with_reducible refine Below.drew ?_ | with_reducible refine below_drewN ?_ _ | with_reducible refine Below.setCell ?_ ?_ _ | with_reducible refine Below.alloc ?_ ?_ _ | with_reducible exact HB2.out | with_reducible exact HB1.out | with_reducible refine Below.trans ?_ (Below.mono hb3 ?_) | with_reducible refine Below.trans ?_ (Below.mono hb5 ?_) | with_reducible refine Below.trans ?_ (Below.mono hb4 ?_) | omega | (simp; omega) | simp)
  · have hM := World.rowIs_made (w.alloc (.cells #[.slice gp gs.length gc] 59)) (.bool false) gs.length 4
    have e : (w.alloc (.cells #[.slice gp gs.length gc] 59)).heap.size = w.heap.size + 1 := by simp
    rw [e] at hM
    exact (hM.alloc _).alloc _
  · exact (blk (heap_step (heap_at (by simp)))).1 0
  · exact (blk (heap_step (heap_step (heap_step (heap_here w _))))).1 0
  · exact (blk (heap_at (by simp))).1 0
  rintro e w2 ⟨rfl, hg, had, hr, hv⟩
  have hH := (blk ((hg.block (w.heap.size + 1 + 1) (by simp) (by simp)).trans (heap_step (heap_at (by simp))))).1
  have HG := hidI hg
  clear hg
  go_wp2
  refine bodyPost_ret (v := .slice (some ⟨w.heap.size + 1, 0, none⟩) gs.length gs.length) (results_tmp (t := 4) rfl _ _ _) rfl ⟨w.heap.size + 1, had, rfl, hr, by omega, fun j hj => hv.all hk hj, ?_⟩
  refine Below.grown ?_ HG.out (by simp; omega) (fun b e => by cases e; omega)
  repeat (first | with_reducible exact Below.refl _ _ | with_reducible exact HB3.out | with_reducible refine Below.drew ?_ | with_reducible refine below_drewN ?_ _ | with_reducible refine Below.setCell ?_ ?_ _ | with_reducible refine Below.alloc ?_ ?_ _ | with_reducible exact HB2.out | with_reducible exact HB1.out | with_reducible refine Below.trans ?_ (Below.mono hb3 ?_) | with_reducible refine Below.trans ?_ (Below.mono hb5 ?_) | with_reducible refine Below.trans ?_ (Below.mono hb4 ?_) | omega | (simp; omega) | simp)
end Go.Proofs.YteckkdmgkikeaaaDoor
