/-
  The law SimpleOneSays where the kind is out of range.
-/
import Derived.Test.YteckkdmgkikeaaaSoL
import Derived.Test.YteckkdmgkikeaaaSoE
import Derived.BigQuiet
import Derived.Deep.QuietTactic
import Derived.Deep.RegionWith
import Derived.Deep.RegionHeld
import Derived.WalkKit
import Derived.WalkSpells
import Derived.WalkLawsBesides
namespace Go.Proofs.Yteckkdmgkikeaaa
open Go.RowKit
attribute [local go_sem] World.cell?_alloc_some

set_option maxRecDepth 100000 in
set_option maxHeartbeats 1000000 in
theorem says_bad (op dst an bn fn : Int) (ar br : Bool) (p : Option Addr) (l c : Nat) (w : World) (h : op < 1 ∨ 22 < op) :
    Calls Try.prog 3 #[.agg #[.int .i64 op, .int .i64 dst, .bool ar, .int .i64 an, .bool br, .int .i64 bn, .int .i64 fn, .slice p l c]] w fun e w' => e = .returned (.bool true) ∧ Below w.heap.size w w' := by
  have hq : ∀ w, (binOp .eql 28 (.agg #[.int .i64 4, .int .i64 0]) (.agg #[.int .i64 4, .int .i64 0])).run Try.prog w = .ok (.bool true) w := fun w => by rw [run_eqFault]; rfl
  have HO : Hid (op < 1 ∨ 22 < op) := h
  rcases h with h | h
  all_goals
    go_enter Try.func3, Try.ntmps3
    go_wp2_with fail
    refine (One_bad _ _ _ _ _ _ _ _ _ _ _ HO.out).mono ?_
    rintro e w1 ⟨rfl, hb1⟩
    obtain ⟨ca, fa⟩ := blk (heap_below (k := w.heap.size) hb1 (by simp) (heap_at rfl))
    have HB1 : Hid (Below w.heap.size w w1) := ((Below.refl _ _).alloc (Nat.le_refl _) _).trans (hb1.mono (by simp))
    have hsz0 : w.heap.size < w1.heap.size := by have := hb1.size; simp at this; omega
    clear hb1
    go_wp2_with fail
    refine (One_nil 21 0 0 0 0 false false (fun _ => (false, 0)) _ (by omega) (by omega) (by unfold I64; omega)).mono ?_
    rintro e w2 ⟨⟨o3, d3, r3, n3, s3, m3, f3, p3, l3, c3, p2, c2, rfl, hP3, hV3, hQ3⟩, hb2⟩
    obtain ⟨cb, fb⟩ := blk (heap_below (k := w1.heap.size) hb2 (by first | (simp; done) | (simp; omega)) (heap_step (heap_at rfl)))
    obtain ⟨cc, fc⟩ := blk (heap_below (k := w1.heap.size + 1) hb2 (by first | (simp; done) | (simp; omega)) (heap_at (by simp)))
    have HB2 : Hid (Below w.heap.size w w2) := (((HB1.out.alloc HB1.out.size _).alloc (by have := HB1.out.size; simp; omega) _)).trans (hb2.mono (by have := HB1.out.size; simp; omega))
    have hsz : w1.heap.size + 1 < w2.heap.size := by have := hb2.size; simp at this; omega
    clear hb2 ca fa
    go_wp2_with fail
    have hsz1 : w1.heap.size < w2.heap.size := by omega
    have hsz2 : w1.heap.size < w2.heap.size + 1 := by omega
    have hsz3 : w1.heap.size < w2.heap.size + 1 + 1 := by omega
    have hsz4 : w1.heap.size + 1 < w2.heap.size + 1 := by omega
    have hsz5 : w1.heap.size + 1 < w2.heap.size + 1 + 1 := by omega
    go_region_with (first | (go_at_call 6; refine (fault_any _ _ _).mono ?_; rintro e w4 ⟨rfl, rfl⟩) | (go_at_call 7; refine (ins_same 0 0 0 0 0 false false none none 0 0 0 (fun _ => (false, 0)) _ (by omega) (.inl rfl) (.inl rfl)).mono ?_; rintro e w5 ⟨rfl, hb5⟩))
    all_goals (go_wp2; go_ret; refine ⟨rfl, ?_⟩; repeat (first | with_reducible exact Below.refl _ _ | with_reducible exact HB3.out | with_reducible refine Below.drew ?_ | with_reducible refine below_drewN ?_ _ | with_reducible refine Below.setCell ?_ ?_ _ | with_reducible refine Below.alloc ?_ ?_ _ | with_reducible exact HB2.out | with_reducible exact HB1.out | with_reducible refine Below.trans ?_ (Below.mono hb3 ?_) | with_reducible refine Below.trans ?_ (Below.mono hb5 ?_) | with_reducible refine Below.trans ?_ (Below.mono hb4 ?_) | omega | (simp; omega) | simp))

end Go.Proofs.Yteckkdmgkikeaaa
