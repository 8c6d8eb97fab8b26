/-
  The law PureEndsSays, walked out of the contracts.
-/
import Derived.Test.YteckkdmgkikeaaaDoorPurC
import Derived.WalkKit
import Derived.WalkSpells
import Derived.WalkLawsBesides
namespace Go.Proofs.YteckkdmgkikeaaaDoor
open Go.RowKit

theorem insAt_neg (u : UniL) (b i : Int) : insAt u (-1) b i = none := by
  unfold insAt
  rw [if_pos (by omega)]

set_option maxRecDepth 100000 in
set_option maxHeartbeats 1000000 in
theorem esays_bad (u : UniL) (gp fp : Option Addr) (gc fc : Nat) (k b i : Int) (w : World) (hgl : u.globals.length * 48 ≤ 140737488351232) (hG : SliceAt w 3 (GloR w) gp u.globals) (hfl : u.funcs.length * 56 ≤ 140737488351232) (hF : SliceAt w 4 (FunR w) fp u.funcs) (hw0 : Ways w) (h : (chk u).1 ≠ 0) :
    Calls Tryd.prog 3 #[.agg #[.slice gp u.globals.length gc, .slice fp u.funcs.length fc], .int .i64 k, .int .i64 b, .int .i64 i] w fun e w' => e = .returned (.bool true) ∧ Below w.heap.size w w' := by
  have HG := hidI hG
  have HF := hidI hF
  have HW := hidI hw0
  have HH := hidI h
  have hne : ((chk u).1 != 0) = true := by simp [h]
  have hq : ∀ w, (binOp .eql 27 (.agg #[.int .i64 (chk u).1, .int .i64 (chk u).2]) (.agg #[.int .i64 (chk u).1, .int .i64 (chk u).2])).run Tryd.prog w = .ok (.bool true) w := fun w => by rw [run_eqFault]; simp
  clear hG hF hw0 h
  go_enter Tryd.func3, Tryd.ntmps3
  go_wp2_with fail
  refine (ends_bad u _ _ _ _ _ _ _ _ hgl (glosMono HG.out (by repeat (first | with_reducible exact Below.refl _ _ | with_reducible exact HB3.out | with_reducible refine Below.drew ?_ | with_reducible refine below_drewN ?_ _ | with_reducible refine Below.setCell ?_ ?_ _ | with_reducible refine Below.alloc ?_ ?_ _ | with_reducible exact HB2.out | with_reducible exact HB1.out | with_reducible refine Below.trans ?_ (Below.mono hb3 ?_) | with_reducible refine Below.trans ?_ (Below.mono hb5 ?_) | with_reducible refine Below.trans ?_ (Below.mono hb4 ?_) | omega | (simp; omega) | simp))) hfl (funsMono HF.out (by repeat (first | with_reducible exact Below.refl _ _ | with_reducible exact HB3.out | with_reducible refine Below.drew ?_ | with_reducible refine below_drewN ?_ _ | with_reducible refine Below.setCell ?_ ?_ _ | with_reducible refine Below.alloc ?_ ?_ _ | with_reducible exact HB2.out | with_reducible exact HB1.out | with_reducible refine Below.trans ?_ (Below.mono hb3 ?_) | with_reducible refine Below.trans ?_ (Below.mono hb5 ?_) | with_reducible refine Below.trans ?_ (Below.mono hb4 ?_) | omega | (simp; omega) | simp))) (HW.out.below (by repeat (first | with_reducible exact Below.refl _ _ | with_reducible exact HB3.out | with_reducible refine Below.drew ?_ | with_reducible refine below_drewN ?_ _ | with_reducible refine Below.setCell ?_ ?_ _ | with_reducible refine Below.alloc ?_ ?_ _ | with_reducible exact HB2.out | with_reducible exact HB1.out | with_reducible refine Below.trans ?_ (Below.mono hb3 ?_) | with_reducible refine Below.trans ?_ (Below.mono hb5 ?_) | with_reducible refine Below.trans ?_ (Below.mono hb4 ?_) | omega | (simp; omega) | simp))) HH.out).mono ?_
  rintro e w1 ⟨rfl, hb1⟩
  have HB1 : Hid (Below w.heap.size w w1) := Below.trans (by repeat (first | with_reducible exact Below.refl _ _ | with_reducible exact HB3.out | with_reducible refine Below.drew ?_ | with_reducible refine below_drewN ?_ _ | with_reducible refine Below.setCell ?_ ?_ _ | with_reducible refine Below.alloc ?_ ?_ _ | with_reducible exact HB2.out | with_reducible exact HB1.out | with_reducible refine Below.trans ?_ (Below.mono hb3 ?_) | with_reducible refine Below.trans ?_ (Below.mono hb5 ?_) | with_reducible refine Below.trans ?_ (Below.mono hb4 ?_) | omega | (simp; omega) | simp)) (hb1.mono (by simp))
  have hc0 := fun o => (blk (heap_below hb1 (k := w.heap.size) (by simp) (heap_here w _))).1 o
  have hz1 : w.heap.size < w1.heap.size := by have := hb1.size; simp at this; omega
  clear hb1
  go_wp2_with fail
  refine (ends_bad u _ _ _ _ _ _ _ _ hgl (glosMono HG.out (by repeat (first | with_reducible exact Below.refl _ _ | with_reducible exact HB3.out | with_reducible refine Below.drew ?_ | with_reducible refine below_drewN ?_ _ | with_reducible refine Below.setCell ?_ ?_ _ | with_reducible refine Below.alloc ?_ ?_ _ | with_reducible exact HB2.out | with_reducible exact HB1.out | with_reducible refine Below.trans ?_ (Below.mono hb3 ?_) | with_reducible refine Below.trans ?_ (Below.mono hb5 ?_) | with_reducible refine Below.trans ?_ (Below.mono hb4 ?_) | omega | (simp; omega) | simp))) hfl (funsMono HF.out (by repeat (first | with_reducible exact Below.refl _ _ | with_reducible exact HB3.out | with_reducible refine Below.drew ?_ | with_reducible refine below_drewN ?_ _ | with_reducible refine Below.setCell ?_ ?_ _ | with_reducible refine Below.alloc ?_ ?_ _ | with_reducible exact HB2.out | with_reducible exact HB1.out | with_reducible refine Below.trans ?_ (Below.mono hb3 ?_) | with_reducible refine Below.trans ?_ (Below.mono hb5 ?_) | with_reducible refine Below.trans ?_ (Below.mono hb4 ?_) | omega | (simp; omega) | simp))) (HW.out.below (by repeat (first | with_reducible exact Below.refl _ _ | with_reducible exact HB3.out | with_reducible refine Below.drew ?_ | with_reducible refine below_drewN ?_ _ | with_reducible refine Below.setCell ?_ ?_ _ | with_reducible refine Below.alloc ?_ ?_ _ | with_reducible exact HB2.out | with_reducible exact HB1.out | with_reducible refine Below.trans ?_ (Below.mono hb3 ?_) | with_reducible refine Below.trans ?_ (Below.mono hb5 ?_) | with_reducible refine Below.trans ?_ (Below.mono hb4 ?_) | omega | (simp; omega) | simp))) HH.out).mono ?_
  rintro e w2 ⟨rfl, hb2⟩
  have HB2 : Hid (Below w.heap.size w w2) := Below.trans (by repeat (first | with_reducible exact Below.refl _ _ | with_reducible exact HB3.out | with_reducible refine Below.drew ?_ | with_reducible refine below_drewN ?_ _ | with_reducible refine Below.setCell ?_ ?_ _ | with_reducible refine Below.alloc ?_ ?_ _ | with_reducible exact HB2.out | with_reducible exact HB1.out | with_reducible refine Below.trans ?_ (Below.mono hb3 ?_) | with_reducible refine Below.trans ?_ (Below.mono hb5 ?_) | with_reducible refine Below.trans ?_ (Below.mono hb4 ?_) | omega | (simp; omega) | simp)) (hb2.mono (by simp; omega))
  have hz2 : w.heap.size < w2.heap.size := by have := hb2.size; simp at this; omega
  have hz3 : w1.heap.size < w2.heap.size := by have := hb2.size; simp at this; omega
  obtain ⟨hcc2, hcf2, _⟩ := bcell hb2
  clear hb2
  go_wp2_with fail
  refine (check_any u _ _ _ _ _ hgl (glosMono HG.out (by repeat (first | with_reducible exact Below.refl _ _ | with_reducible exact HB3.out | with_reducible refine Below.drew ?_ | with_reducible refine below_drewN ?_ _ | with_reducible refine Below.setCell ?_ ?_ _ | with_reducible refine Below.alloc ?_ ?_ _ | with_reducible exact HB2.out | with_reducible exact HB1.out | with_reducible refine Below.trans ?_ (Below.mono hb3 ?_) | with_reducible refine Below.trans ?_ (Below.mono hb5 ?_) | with_reducible refine Below.trans ?_ (Below.mono hb4 ?_) | omega | (simp; omega) | simp))) hfl (funsMono HF.out (by repeat (first | with_reducible exact Below.refl _ _ | with_reducible exact HB3.out | with_reducible refine Below.drew ?_ | with_reducible refine below_drewN ?_ _ | with_reducible refine Below.setCell ?_ ?_ _ | with_reducible refine Below.alloc ?_ ?_ _ | with_reducible exact HB2.out | with_reducible exact HB1.out | with_reducible refine Below.trans ?_ (Below.mono hb3 ?_) | with_reducible refine Below.trans ?_ (Below.mono hb5 ?_) | with_reducible refine Below.trans ?_ (Below.mono hb4 ?_) | omega | (simp; omega) | simp))) (HW.out.below (by repeat (first | with_reducible exact Below.refl _ _ | with_reducible exact HB3.out | with_reducible refine Below.drew ?_ | with_reducible refine below_drewN ?_ _ | with_reducible refine Below.setCell ?_ ?_ _ | with_reducible refine Below.alloc ?_ ?_ _ | with_reducible exact HB2.out | with_reducible exact HB1.out | with_reducible refine Below.trans ?_ (Below.mono hb3 ?_) | with_reducible refine Below.trans ?_ (Below.mono hb5 ?_) | with_reducible refine Below.trans ?_ (Below.mono hb4 ?_) | omega | (simp; omega) | simp)))).mono ?_
  rintro e w3 ⟨rfl, hb3⟩
  have HB3 : Hid (Below w.heap.size w w3) := Below.trans (by repeat (first | with_reducible exact Below.refl _ _ | with_reducible exact HB3.out | with_reducible refine Below.drew ?_ | with_reducible refine below_drewN ?_ _ | with_reducible refine Below.setCell ?_ ?_ _ | with_reducible refine Below.alloc ?_ ?_ _ | with_reducible exact HB2.out | with_reducible exact HB1.out | with_reducible refine Below.trans ?_ (Below.mono hb3 ?_) | with_reducible refine Below.trans ?_ (Below.mono hb5 ?_) | with_reducible refine Below.trans ?_ (Below.mono hb4 ?_) | omega | (simp; omega) | simp)) (hb3.mono (by simp; omega))
  have hz4 : w.heap.size < w3.heap.size := by have := hb3.size; simp at this; omega
  have hz5 : w1.heap.size < w3.heap.size := by have := hb3.size; simp at this; omega
  have hz6 : w2.heap.size < w3.heap.size := by have := hb3.size; simp at this; omega
  obtain ⟨hcc3, hcf3, _⟩ := bcell hb3
  clear hb3
  go_wp2
  go_ret
  refine ⟨rfl, by repeat (first | with_reducible exact Below.refl _ _ | with_reducible exact HB3.out | with_reducible refine Below.drew ?_ | with_reducible refine below_drewN ?_ _ | with_reducible refine Below.setCell ?_ ?_ _ | with_reducible refine Below.alloc ?_ ?_ _ | with_reducible exact HB2.out | with_reducible exact HB1.out | with_reducible refine Below.trans ?_ (Below.mono hb3 ?_) | with_reducible refine Below.trans ?_ (Below.mono hb5 ?_) | with_reducible refine Below.trans ?_ (Below.mono hb4 ?_) | omega | (simp; omega) | simp)⟩


set_option maxRecDepth 100000 in
set_option maxHeartbeats 1000000 in
theorem esays_out (u : UniL) (gp fp : Option Addr) (gc fc : Nat) (k b i : Int) (w : World) (hgl : u.globals.length * 48 ≤ 140737488351232) (hG : SliceAt w 3 (GloR w) gp u.globals) (hfl : u.funcs.length * 56 ≤ 140737488351232) (hF : SliceAt w 4 (FunR w) fp u.funcs) (hw0 : Ways w) (h : (chk u).1 = 0) (hno : insAt u k b i = none) :
    Calls Tryd.prog 3 #[.agg #[.slice gp u.globals.length gc, .slice fp u.funcs.length fc], .int .i64 k, .int .i64 b, .int .i64 i] w fun e w' => e = .returned (.bool true) ∧ Below w.heap.size w w' := by
  have HG := hidI hG
  have HF := hidI hF
  have HW := hidI hw0
  have HH := hidI h
  have hne : ((0 : Int) != 0) = false := rfl
  have HC := hidI (chk_ok h).1
  have HNO := hidI hno
  clear hno
  have hq : ∀ w, (binOp .neq 27 (.agg #[.int .i64 3, .int .i64 (-1)]) (.agg #[.int .i64 3, .int .i64 (-1)])).run Tryd.prog w = .ok (.bool false) w := fun w => by rw [run_neFault]; simp
  have hq2 : ∀ w, (binOp .eql 27 (.agg #[.int .i64 3, .int .i64 (-1)]) (.agg #[.int .i64 3, .int .i64 (-1)])).run Tryd.prog w = .ok (.bool true) w := fun w => by rw [run_eqFault]; simp
  clear hG hF hw0 h
  go_enter Tryd.func3, Tryd.ntmps3
  go_wp2_with fail
  refine (ends_out u _ _ _ _ _ _ _ _ hgl (glosMono HG.out (by repeat (first | with_reducible exact Below.refl _ _ | with_reducible exact HB3.out | with_reducible refine Below.drew ?_ | with_reducible refine below_drewN ?_ _ | with_reducible refine Below.setCell ?_ ?_ _ | with_reducible refine Below.alloc ?_ ?_ _ | with_reducible exact HB2.out | with_reducible exact HB1.out | with_reducible refine Below.trans ?_ (Below.mono hb3 ?_) | with_reducible refine Below.trans ?_ (Below.mono hb5 ?_) | with_reducible refine Below.trans ?_ (Below.mono hb4 ?_) | omega | (simp; omega) | simp))) hfl (funsMono HF.out (by repeat (first | with_reducible exact Below.refl _ _ | with_reducible exact HB3.out | with_reducible refine Below.drew ?_ | with_reducible refine below_drewN ?_ _ | with_reducible refine Below.setCell ?_ ?_ _ | with_reducible refine Below.alloc ?_ ?_ _ | with_reducible exact HB2.out | with_reducible exact HB1.out | with_reducible refine Below.trans ?_ (Below.mono hb3 ?_) | with_reducible refine Below.trans ?_ (Below.mono hb5 ?_) | with_reducible refine Below.trans ?_ (Below.mono hb4 ?_) | omega | (simp; omega) | simp))) (HW.out.below (by repeat (first | with_reducible exact Below.refl _ _ | with_reducible exact HB3.out | with_reducible refine Below.drew ?_ | with_reducible refine below_drewN ?_ _ | with_reducible refine Below.setCell ?_ ?_ _ | with_reducible refine Below.alloc ?_ ?_ _ | with_reducible exact HB2.out | with_reducible exact HB1.out | with_reducible refine Below.trans ?_ (Below.mono hb3 ?_) | with_reducible refine Below.trans ?_ (Below.mono hb5 ?_) | with_reducible refine Below.trans ?_ (Below.mono hb4 ?_) | omega | (simp; omega) | simp))) HH.out HNO.out).mono ?_
  rintro e w1 ⟨rfl, hb1⟩
  have HB1 : Hid (Below w.heap.size w w1) := Below.trans (by repeat (first | with_reducible exact Below.refl _ _ | with_reducible exact HB3.out | with_reducible refine Below.drew ?_ | with_reducible refine below_drewN ?_ _ | with_reducible refine Below.setCell ?_ ?_ _ | with_reducible refine Below.alloc ?_ ?_ _ | with_reducible exact HB2.out | with_reducible exact HB1.out | with_reducible refine Below.trans ?_ (Below.mono hb3 ?_) | with_reducible refine Below.trans ?_ (Below.mono hb5 ?_) | with_reducible refine Below.trans ?_ (Below.mono hb4 ?_) | omega | (simp; omega) | simp)) (hb1.mono (by simp))
  have hc0 := fun o => (blk (heap_below hb1 (k := w.heap.size) (by simp) (heap_here w _))).1 o
  have hz1 : w.heap.size < w1.heap.size := by have := hb1.size; simp at this; omega
  clear hb1
  go_wp2_with fail
  refine (ends_out u _ _ _ _ _ _ _ _ hgl (glosMono HG.out (by repeat (first | with_reducible exact Below.refl _ _ | with_reducible exact HB3.out | with_reducible refine Below.drew ?_ | with_reducible refine below_drewN ?_ _ | with_reducible refine Below.setCell ?_ ?_ _ | with_reducible refine Below.alloc ?_ ?_ _ | with_reducible exact HB2.out | with_reducible exact HB1.out | with_reducible refine Below.trans ?_ (Below.mono hb3 ?_) | with_reducible refine Below.trans ?_ (Below.mono hb5 ?_) | with_reducible refine Below.trans ?_ (Below.mono hb4 ?_) | omega | (simp; omega) | simp))) hfl (funsMono HF.out (by repeat (first | with_reducible exact Below.refl _ _ | with_reducible exact HB3.out | with_reducible refine Below.drew ?_ | with_reducible refine below_drewN ?_ _ | with_reducible refine Below.setCell ?_ ?_ _ | with_reducible refine Below.alloc ?_ ?_ _ | with_reducible exact HB2.out | with_reducible exact HB1.out | with_reducible refine Below.trans ?_ (Below.mono hb3 ?_) | with_reducible refine Below.trans ?_ (Below.mono hb5 ?_) | with_reducible refine Below.trans ?_ (Below.mono hb4 ?_) | omega | (simp; omega) | simp))) (HW.out.below (by repeat (first | with_reducible exact Below.refl _ _ | with_reducible exact HB3.out | with_reducible refine Below.drew ?_ | with_reducible refine below_drewN ?_ _ | with_reducible refine Below.setCell ?_ ?_ _ | with_reducible refine Below.alloc ?_ ?_ _ | with_reducible exact HB2.out | with_reducible exact HB1.out | with_reducible refine Below.trans ?_ (Below.mono hb3 ?_) | with_reducible refine Below.trans ?_ (Below.mono hb5 ?_) | with_reducible refine Below.trans ?_ (Below.mono hb4 ?_) | omega | (simp; omega) | simp))) HH.out (insAt_neg _ _ _)).mono ?_
  rintro e w2 ⟨rfl, hb2⟩
  have HB2 : Hid (Below w.heap.size w w2) := Below.trans (by repeat (first | with_reducible exact Below.refl _ _ | with_reducible exact HB3.out | with_reducible refine Below.drew ?_ | with_reducible refine below_drewN ?_ _ | with_reducible refine Below.setCell ?_ ?_ _ | with_reducible refine Below.alloc ?_ ?_ _ | with_reducible exact HB2.out | with_reducible exact HB1.out | with_reducible refine Below.trans ?_ (Below.mono hb3 ?_) | with_reducible refine Below.trans ?_ (Below.mono hb5 ?_) | with_reducible refine Below.trans ?_ (Below.mono hb4 ?_) | omega | (simp; omega) | simp)) (hb2.mono (by simp; omega))
  have hz2 : w.heap.size < w2.heap.size := by have := hb2.size; simp at this; omega
  have hz3 : w1.heap.size < w2.heap.size := by have := hb2.size; simp at this; omega
  obtain ⟨hcc2, hcf2, _⟩ := bcell hb2
  clear hb2
  go_wp2_with fail
  refine (check_any u _ _ _ _ _ hgl (glosMono HG.out (by repeat (first | with_reducible exact Below.refl _ _ | with_reducible exact HB3.out | with_reducible refine Below.drew ?_ | with_reducible refine below_drewN ?_ _ | with_reducible refine Below.setCell ?_ ?_ _ | with_reducible refine Below.alloc ?_ ?_ _ | with_reducible exact HB2.out | with_reducible exact HB1.out | with_reducible refine Below.trans ?_ (Below.mono hb3 ?_) | with_reducible refine Below.trans ?_ (Below.mono hb5 ?_) | with_reducible refine Below.trans ?_ (Below.mono hb4 ?_) | omega | (simp; omega) | simp))) hfl (funsMono HF.out (by repeat (first | with_reducible exact Below.refl _ _ | with_reducible exact HB3.out | with_reducible refine Below.drew ?_ | with_reducible refine below_drewN ?_ _ | with_reducible refine Below.setCell ?_ ?_ _ | with_reducible refine Below.alloc ?_ ?_ _ | with_reducible exact HB2.out | with_reducible exact HB1.out | with_reducible refine Below.trans ?_ (Below.mono hb3 ?_) | with_reducible refine Below.trans ?_ (Below.mono hb5 ?_) | with_reducible refine Below.trans ?_ (Below.mono hb4 ?_) | omega | (simp; omega) | simp))) (HW.out.below (by repeat (first | with_reducible exact Below.refl _ _ | with_reducible exact HB3.out | with_reducible refine Below.drew ?_ | with_reducible refine below_drewN ?_ _ | with_reducible refine Below.setCell ?_ ?_ _ | with_reducible refine Below.alloc ?_ ?_ _ | with_reducible exact HB2.out | with_reducible exact HB1.out | with_reducible refine Below.trans ?_ (Below.mono hb3 ?_) | with_reducible refine Below.trans ?_ (Below.mono hb5 ?_) | with_reducible refine Below.trans ?_ (Below.mono hb4 ?_) | omega | (simp; omega) | simp)))).mono ?_
  rintro e w3 ⟨rfl, hb3⟩
  rw [HC.out]
  have HB3 : Hid (Below w.heap.size w w3) := Below.trans (by repeat (first | with_reducible exact Below.refl _ _ | with_reducible exact HB3.out | with_reducible refine Below.drew ?_ | with_reducible refine below_drewN ?_ _ | with_reducible refine Below.setCell ?_ ?_ _ | with_reducible refine Below.alloc ?_ ?_ _ | with_reducible exact HB2.out | with_reducible exact HB1.out | with_reducible refine Below.trans ?_ (Below.mono hb3 ?_) | with_reducible refine Below.trans ?_ (Below.mono hb5 ?_) | with_reducible refine Below.trans ?_ (Below.mono hb4 ?_) | omega | (simp; omega) | simp)) (hb3.mono (by simp; omega))
  have hz4 : w.heap.size < w3.heap.size := by have := hb3.size; simp at this; omega
  have hz5 : w1.heap.size < w3.heap.size := by have := hb3.size; simp at this; omega
  have hz6 : w2.heap.size < w3.heap.size := by have := hb3.size; simp at this; omega
  obtain ⟨hcc3, hcf3, _⟩ := bcell hb3
  have hz7 : w2.heap.size < w3.heap.size + 1 := by omega
  have hz8 : w1.heap.size < w3.heap.size + 1 := by omega
  have hz9 : w.heap.size < w3.heap.size + 1 := by omega
  have hz10 : w1.heap.size < w3.heap.size + 1 + 1 := by omega
  have hz11 : w1.heap.size < w2.heap.size + 1 := by omega
  clear hb3
  go_wp2
  go_region_held3 (fun w' => w'.cell? ⟨w2.heap.size, 0, none⟩ = some (.int .i64 3) ∧ w'.cell? ⟨w2.heap.size, 1, none⟩ = some (.int .i64 (-1))) (first | (go_keep; done) | (simp [World.cell?_alloc_past, *]; done))
    (first | (go_at_call 15; refine (fault_any _ _ _).mono ?_; rintro e w4 ⟨rfl, rfl⟩))
  rcases insAt_none HNO.out with hk | hk | ⟨k', h1, rfl, hk⟩
  · (go_wp2; go_region_held3 (fun w' => w'.cell? ⟨w1.heap.size, 0, none⟩ = some (.int .i64 3) ∧ w'.cell? ⟨w1.heap.size, 1, none⟩ = some (.int .i64 (-1))) (first | (go_keep; done) | (simp [World.cell?_alloc_past, *]; done)) (first | (go_at_call 15; refine (fault_any _ _ _).mono ?_; rintro e w4 ⟨rfl, rfl⟩)); all_goals (go_wp2; go_ret; refine ⟨rfl, ?_⟩; repeat (first | with_reducible exact Below.refl _ _ | with_reducible exact HB3.out | with_reducible refine Below.drew ?_ | with_reducible refine below_drewN ?_ _ | with_reducible refine Below.setCell ?_ ?_ _ | with_reducible refine Below.alloc ?_ ?_ _ | with_reducible exact HB2.out | with_reducible exact HB1.out | with_reducible refine Below.trans ?_ (Below.mono hb3 ?_) | with_reducible refine Below.trans ?_ (Below.mono hb5 ?_) | with_reducible refine Below.trans ?_ (Below.mono hb4 ?_) | omega | (simp; omega) | simp)))
  · have t1 : decide (k < 0) = false := by simp; omega
    have t2 : decide ((u.funcs.length : Int) ≤ k) = true := by simp; omega
    (go_wp2; go_region_held3 (fun w' => w'.cell? ⟨w1.heap.size, 0, none⟩ = some (.int .i64 3) ∧ w'.cell? ⟨w1.heap.size, 1, none⟩ = some (.int .i64 (-1))) (first | (go_keep; done) | (simp [World.cell?_alloc_past, *]; done)) (first | (go_at_call 15; refine (fault_any _ _ _).mono ?_; rintro e w4 ⟨rfl, rfl⟩)); all_goals (go_wp2; go_ret; refine ⟨rfl, ?_⟩; repeat (first | with_reducible exact Below.refl _ _ | with_reducible exact HB3.out | with_reducible refine Below.drew ?_ | with_reducible refine below_drewN ?_ _ | with_reducible refine Below.setCell ?_ ?_ _ | with_reducible refine Below.alloc ?_ ?_ _ | with_reducible exact HB2.out | with_reducible exact HB1.out | with_reducible refine Below.trans ?_ (Below.mono hb3 ?_) | with_reducible refine Below.trans ?_ (Below.mono hb5 ?_) | with_reducible refine Below.trans ?_ (Below.mono hb4 ?_) | omega | (simp; omega) | simp)))
  obtain ⟨b2, o2, q, c, hp, e0, e1, e2, e3, _, _, _, hbl, hbs⟩ := funGet HF.out HB3.out h1
  subst hp
  have hbb := lt_of_cell e0
  have hbb1 : b2 < w3.heap.size + 1 := by omega
  have HS := hidI hbs
  clear hbs
  have t1 : decide ((k' : Int) < 0) = false := by simp
  have t2 : decide (u.funcs.length ≤ k') = false := by simp; omega
  rcases hk with hb | hb | ⟨b', h2, rfl, hb⟩
  · (go_wp2; go_region_held3 (fun w' => w'.cell? ⟨w1.heap.size, 0, none⟩ = some (.int .i64 3) ∧ w'.cell? ⟨w1.heap.size, 1, none⟩ = some (.int .i64 (-1))) (first | (go_keep; done) | (simp [World.cell?_alloc_past, *]; done)) (first | (go_at_call 15; refine (fault_any _ _ _).mono ?_; rintro e w4 ⟨rfl, rfl⟩)); all_goals (go_wp2; go_ret; refine ⟨rfl, ?_⟩; repeat (first | with_reducible exact Below.refl _ _ | with_reducible exact HB3.out | with_reducible refine Below.drew ?_ | with_reducible refine below_drewN ?_ _ | with_reducible refine Below.setCell ?_ ?_ _ | with_reducible refine Below.alloc ?_ ?_ _ | with_reducible exact HB2.out | with_reducible exact HB1.out | with_reducible refine Below.trans ?_ (Below.mono hb3 ?_) | with_reducible refine Below.trans ?_ (Below.mono hb5 ?_) | with_reducible refine Below.trans ?_ (Below.mono hb4 ?_) | omega | (simp; omega) | simp)))
  · have t3 : decide (b < 0) = false := by simp; omega
    have t4 : decide ((u.funcs[k'].blocks.length : Int) ≤ b) = true := by simp; omega
    (go_wp2; go_region_held3 (fun w' => w'.cell? ⟨w1.heap.size, 0, none⟩ = some (.int .i64 3) ∧ w'.cell? ⟨w1.heap.size, 1, none⟩ = some (.int .i64 (-1))) (first | (go_keep; done) | (simp [World.cell?_alloc_past, *]; done)) (first | (go_at_call 15; refine (fault_any _ _ _).mono ?_; rintro e w4 ⟨rfl, rfl⟩)); all_goals (go_wp2; go_ret; refine ⟨rfl, ?_⟩; repeat (first | with_reducible exact Below.refl _ _ | with_reducible exact HB3.out | with_reducible refine Below.drew ?_ | with_reducible refine below_drewN ?_ _ | with_reducible refine Below.setCell ?_ ?_ _ | with_reducible refine Below.alloc ?_ ?_ _ | with_reducible exact HB2.out | with_reducible exact HB1.out | with_reducible refine Below.trans ?_ (Below.mono hb3 ?_) | with_reducible refine Below.trans ?_ (Below.mono hb5 ?_) | with_reducible refine Below.trans ?_ (Below.mono hb4 ?_) | omega | (simp; omega) | simp)))
  obtain ⟨b3, o3, q1, c1, q2, c2, q3, c3, hp, d0, d1, d2, d3, d4, d5, _, _, _, hl2, _, _, _, _⟩ := blkGet HS.out (Below.refl _ _) h2
  subst hp
  have hbb3 := lt_of_cell d0
  have hbb4 : b3 < w3.heap.size + 1 := by omega
  have t3 : decide ((b' : Int) < 0) = false := by simp
  have t4 : decide (u.funcs[k'].blocks.length ≤ b') = false := by simp; omega
  rcases hb with hi | hi
  · (go_wp2; go_region_held3 (fun w' => w'.cell? ⟨w1.heap.size, 0, none⟩ = some (.int .i64 3) ∧ w'.cell? ⟨w1.heap.size, 1, none⟩ = some (.int .i64 (-1))) (first | (go_keep; done) | (simp [World.cell?_alloc_past, *]; done)) (first | (go_at_call 15; refine (fault_any _ _ _).mono ?_; rintro e w4 ⟨rfl, rfl⟩)); all_goals (go_wp2; go_ret; refine ⟨rfl, ?_⟩; repeat (first | with_reducible exact Below.refl _ _ | with_reducible exact HB3.out | with_reducible refine Below.drew ?_ | with_reducible refine below_drewN ?_ _ | with_reducible refine Below.setCell ?_ ?_ _ | with_reducible refine Below.alloc ?_ ?_ _ | with_reducible exact HB2.out | with_reducible exact HB1.out | with_reducible refine Below.trans ?_ (Below.mono hb3 ?_) | with_reducible refine Below.trans ?_ (Below.mono hb5 ?_) | with_reducible refine Below.trans ?_ (Below.mono hb4 ?_) | omega | (simp; omega) | simp)))
  · have t5 : decide (i < 0) = false := by simp; omega
    have t6 : decide ((u.funcs[k'].blocks[b'].list.length : Int) ≤ i) = true := by simp; omega
    (go_wp2; go_region_held3 (fun w' => w'.cell? ⟨w1.heap.size, 0, none⟩ = some (.int .i64 3) ∧ w'.cell? ⟨w1.heap.size, 1, none⟩ = some (.int .i64 (-1))) (first | (go_keep; done) | (simp [World.cell?_alloc_past, *]; done)) (first | (go_at_call 15; refine (fault_any _ _ _).mono ?_; rintro e w4 ⟨rfl, rfl⟩)); all_goals (go_wp2; go_ret; refine ⟨rfl, ?_⟩; repeat (first | with_reducible exact Below.refl _ _ | with_reducible exact HB3.out | with_reducible refine Below.drew ?_ | with_reducible refine below_drewN ?_ _ | with_reducible refine Below.setCell ?_ ?_ _ | with_reducible refine Below.alloc ?_ ?_ _ | with_reducible exact HB2.out | with_reducible exact HB1.out | with_reducible refine Below.trans ?_ (Below.mono hb3 ?_) | with_reducible refine Below.trans ?_ (Below.mono hb5 ?_) | with_reducible refine Below.trans ?_ (Below.mono hb4 ?_) | omega | (simp; omega) | simp)))

set_option maxRecDepth 100000 in
set_option maxHeartbeats 1000000 in
theorem esays_in (u : UniL) (gp fp : Option Addr) (gc fc : Nat) (k b i : Int) (w : World) (hgl : u.globals.length * 48 ≤ 140737488351232) (hG : SliceAt w 3 (GloR w) gp u.globals) (hfl : u.funcs.length * 56 ≤ 140737488351232) (hF : SliceAt w 4 (FunR w) fp u.funcs) (hw0 : Ways w) (h : (chk u).1 = 0) (x : InsL) (hno : insAt u k b i = some x) :
    Calls Tryd.prog 3 #[.agg #[.slice gp u.globals.length gc, .slice fp u.funcs.length fc], .int .i64 k, .int .i64 b, .int .i64 i] w fun e w' => e = .returned (.bool true) ∧ Below w.heap.size w w' := by
  have HG := hidI hG
  have HF := hidI hF
  have HW := hidI hw0
  have HH := hidI h
  have hne : ((0 : Int) != 0) = false := rfl
  have HC := hidI (chk_ok h).1
  have HNO := hidI hno
  have HWD := hidI (chk_ok h).2.words
  clear hno
  have hq : ∀ w, (binOp .neq 27 (.agg #[.int .i64 3, .int .i64 (-1)]) (.agg #[.int .i64 3, .int .i64 (-1)])).run Tryd.prog w = .ok (.bool false) w := fun w => by rw [run_neFault]; simp
  clear hG hF hw0 h
  obtain ⟨k', b', i', h1, h2, h3, hk', hb', hi', hx⟩ := insAt_some HNO.out
  subst hk' hb' hi' hx
  have t1 : decide ((k' : Int) < 0) = false := by simp
  have t2 : decide (u.funcs.length ≤ k') = false := by simp; omega
  have t3 : decide ((b' : Int) < 0) = false := by simp
  have t4 : decide (u.funcs[k'].blocks.length ≤ b') = false := by simp; omega
  have t5 : decide ((i' : Int) < 0) = false := by simp
  have t6 : decide (u.funcs[k'].blocks[b'].list.length ≤ i') = false := by simp; omega
  go_enter Tryd.func3, Tryd.ntmps3
  go_wp2_with fail
  refine (ends_in u _ _ _ _ _ _ _ _ hgl (glosMono HG.out (by repeat (first | with_reducible exact Below.refl _ _ | with_reducible exact HB3.out | with_reducible refine Below.drew ?_ | with_reducible refine below_drewN ?_ _ | with_reducible refine Below.setCell ?_ ?_ _ | with_reducible refine Below.alloc ?_ ?_ _ | with_reducible exact HB2.out | with_reducible exact HB1.out | with_reducible refine Below.trans ?_ (Below.mono hb3 ?_) | with_reducible refine Below.trans ?_ (Below.mono hb5 ?_) | with_reducible refine Below.trans ?_ (Below.mono hb4 ?_) | omega | (simp; omega) | simp))) hfl (funsMono HF.out (by repeat (first | with_reducible exact Below.refl _ _ | with_reducible exact HB3.out | with_reducible refine Below.drew ?_ | with_reducible refine below_drewN ?_ _ | with_reducible refine Below.setCell ?_ ?_ _ | with_reducible refine Below.alloc ?_ ?_ _ | with_reducible exact HB2.out | with_reducible exact HB1.out | with_reducible refine Below.trans ?_ (Below.mono hb3 ?_) | with_reducible refine Below.trans ?_ (Below.mono hb5 ?_) | with_reducible refine Below.trans ?_ (Below.mono hb4 ?_) | omega | (simp; omega) | simp))) (HW.out.below (by repeat (first | with_reducible exact Below.refl _ _ | with_reducible exact HB3.out | with_reducible refine Below.drew ?_ | with_reducible refine below_drewN ?_ _ | with_reducible refine Below.setCell ?_ ?_ _ | with_reducible refine Below.alloc ?_ ?_ _ | with_reducible exact HB2.out | with_reducible exact HB1.out | with_reducible refine Below.trans ?_ (Below.mono hb3 ?_) | with_reducible refine Below.trans ?_ (Below.mono hb5 ?_) | with_reducible refine Below.trans ?_ (Below.mono hb4 ?_) | omega | (simp; omega) | simp))) HH.out _ HNO.out).mono ?_
  rintro e w1 ⟨rfl, hb1⟩
  have HB1 : Hid (Below w.heap.size w w1) := Below.trans (by repeat (first | with_reducible exact Below.refl _ _ | with_reducible exact HB3.out | with_reducible refine Below.drew ?_ | with_reducible refine below_drewN ?_ _ | with_reducible refine Below.setCell ?_ ?_ _ | with_reducible refine Below.alloc ?_ ?_ _ | with_reducible exact HB2.out | with_reducible exact HB1.out | with_reducible refine Below.trans ?_ (Below.mono hb3 ?_) | with_reducible refine Below.trans ?_ (Below.mono hb5 ?_) | with_reducible refine Below.trans ?_ (Below.mono hb4 ?_) | omega | (simp; omega) | simp)) (hb1.mono (by simp))
  have hc0 := fun o => (blk (heap_below hb1 (k := w.heap.size) (by simp) (heap_here w _))).1 o
  have hz1 : w.heap.size < w1.heap.size := by have := hb1.size; simp at this; omega
  clear hb1
  go_wp2_with fail
  refine (ends_out u _ _ _ _ _ _ _ _ hgl (glosMono HG.out (by repeat (first | with_reducible exact Below.refl _ _ | with_reducible exact HB3.out | with_reducible refine Below.drew ?_ | with_reducible refine below_drewN ?_ _ | with_reducible refine Below.setCell ?_ ?_ _ | with_reducible refine Below.alloc ?_ ?_ _ | with_reducible exact HB2.out | with_reducible exact HB1.out | with_reducible refine Below.trans ?_ (Below.mono hb3 ?_) | with_reducible refine Below.trans ?_ (Below.mono hb5 ?_) | with_reducible refine Below.trans ?_ (Below.mono hb4 ?_) | omega | (simp; omega) | simp))) hfl (funsMono HF.out (by repeat (first | with_reducible exact Below.refl _ _ | with_reducible exact HB3.out | with_reducible refine Below.drew ?_ | with_reducible refine below_drewN ?_ _ | with_reducible refine Below.setCell ?_ ?_ _ | with_reducible refine Below.alloc ?_ ?_ _ | with_reducible exact HB2.out | with_reducible exact HB1.out | with_reducible refine Below.trans ?_ (Below.mono hb3 ?_) | with_reducible refine Below.trans ?_ (Below.mono hb5 ?_) | with_reducible refine Below.trans ?_ (Below.mono hb4 ?_) | omega | (simp; omega) | simp))) (HW.out.below (by repeat (first | with_reducible exact Below.refl _ _ | with_reducible exact HB3.out | with_reducible refine Below.drew ?_ | with_reducible refine below_drewN ?_ _ | with_reducible refine Below.setCell ?_ ?_ _ | with_reducible refine Below.alloc ?_ ?_ _ | with_reducible exact HB2.out | with_reducible exact HB1.out | with_reducible refine Below.trans ?_ (Below.mono hb3 ?_) | with_reducible refine Below.trans ?_ (Below.mono hb5 ?_) | with_reducible refine Below.trans ?_ (Below.mono hb4 ?_) | omega | (simp; omega) | simp))) HH.out (insAt_neg _ _ _)).mono ?_
  rintro e w2 ⟨rfl, hb2⟩
  have HB2 : Hid (Below w.heap.size w w2) := Below.trans (by repeat (first | with_reducible exact Below.refl _ _ | with_reducible exact HB3.out | with_reducible refine Below.drew ?_ | with_reducible refine below_drewN ?_ _ | with_reducible refine Below.setCell ?_ ?_ _ | with_reducible refine Below.alloc ?_ ?_ _ | with_reducible exact HB2.out | with_reducible exact HB1.out | with_reducible refine Below.trans ?_ (Below.mono hb3 ?_) | with_reducible refine Below.trans ?_ (Below.mono hb5 ?_) | with_reducible refine Below.trans ?_ (Below.mono hb4 ?_) | omega | (simp; omega) | simp)) (hb2.mono (by simp; omega))
  have hz2 : w.heap.size < w2.heap.size := by have := hb2.size; simp at this; omega
  have hz3 : w1.heap.size < w2.heap.size := by have := hb2.size; simp at this; omega
  obtain ⟨hcc2, hcf2, _⟩ := bcell hb2
  clear hb2
  go_wp2_with fail
  refine (check_any u _ _ _ _ _ hgl (glosMono HG.out (by repeat (first | with_reducible exact Below.refl _ _ | with_reducible exact HB3.out | with_reducible refine Below.drew ?_ | with_reducible refine below_drewN ?_ _ | with_reducible refine Below.setCell ?_ ?_ _ | with_reducible refine Below.alloc ?_ ?_ _ | with_reducible exact HB2.out | with_reducible exact HB1.out | with_reducible refine Below.trans ?_ (Below.mono hb3 ?_) | with_reducible refine Below.trans ?_ (Below.mono hb5 ?_) | with_reducible refine Below.trans ?_ (Below.mono hb4 ?_) | omega | (simp; omega) | simp))) hfl (funsMono HF.out (by repeat (first | with_reducible exact Below.refl _ _ | with_reducible exact HB3.out | with_reducible refine Below.drew ?_ | with_reducible refine below_drewN ?_ _ | with_reducible refine Below.setCell ?_ ?_ _ | with_reducible refine Below.alloc ?_ ?_ _ | with_reducible exact HB2.out | with_reducible exact HB1.out | with_reducible refine Below.trans ?_ (Below.mono hb3 ?_) | with_reducible refine Below.trans ?_ (Below.mono hb5 ?_) | with_reducible refine Below.trans ?_ (Below.mono hb4 ?_) | omega | (simp; omega) | simp))) (HW.out.below (by repeat (first | with_reducible exact Below.refl _ _ | with_reducible exact HB3.out | with_reducible refine Below.drew ?_ | with_reducible refine below_drewN ?_ _ | with_reducible refine Below.setCell ?_ ?_ _ | with_reducible refine Below.alloc ?_ ?_ _ | with_reducible exact HB2.out | with_reducible exact HB1.out | with_reducible refine Below.trans ?_ (Below.mono hb3 ?_) | with_reducible refine Below.trans ?_ (Below.mono hb5 ?_) | with_reducible refine Below.trans ?_ (Below.mono hb4 ?_) | omega | (simp; omega) | simp)))).mono ?_
  rintro e w3 ⟨rfl, hb3⟩
  rw [HC.out]
  have HB3 : Hid (Below w.heap.size w w3) := Below.trans (by repeat (first | with_reducible exact Below.refl _ _ | with_reducible exact HB3.out | with_reducible refine Below.drew ?_ | with_reducible refine below_drewN ?_ _ | with_reducible refine Below.setCell ?_ ?_ _ | with_reducible refine Below.alloc ?_ ?_ _ | with_reducible exact HB2.out | with_reducible exact HB1.out | with_reducible refine Below.trans ?_ (Below.mono hb3 ?_) | with_reducible refine Below.trans ?_ (Below.mono hb5 ?_) | with_reducible refine Below.trans ?_ (Below.mono hb4 ?_) | omega | (simp; omega) | simp)) (hb3.mono (by simp; omega))
  have hz4 : w.heap.size < w3.heap.size := by have := hb3.size; simp at this; omega
  have hz5 : w1.heap.size < w3.heap.size := by have := hb3.size; simp at this; omega
  have hz6 : w2.heap.size < w3.heap.size := by have := hb3.size; simp at this; omega
  obtain ⟨hcc3, hcf3, _⟩ := bcell hb3
  have hz7 : w2.heap.size < w3.heap.size + 1 := by omega
  have hz8 : w1.heap.size < w3.heap.size + 1 := by omega
  have hz9 : w.heap.size < w3.heap.size + 1 := by omega
  have hz10 : w1.heap.size < w3.heap.size + 1 + 1 := by omega
  have hz11 : w1.heap.size < w2.heap.size + 1 := by omega
  clear hb3
  go_wp2
  go_region_held3 (fun w' => w'.cell? ⟨w2.heap.size, 0, none⟩ = some (.int .i64 3) ∧ w'.cell? ⟨w2.heap.size, 1, none⟩ = some (.int .i64 (-1))) (first | (go_keep; done) | (simp [World.cell?_alloc_past, *]; done))
    (first | (go_at_call 15; refine (fault_any _ _ _).mono ?_; rintro e w4 ⟨rfl, rfl⟩))
  obtain ⟨b2, o2, q, c, hp, e0, e1, e2, e3, _, _, _, hbl, hbs⟩ := funGet HF.out HB3.out h1
  subst hp
  have hbb := lt_of_cell e0
  obtain ⟨b3, o3, q1, c1, q2, c2, q3, c3, hp, d0, d1, d2, d3, d4, d5, _, _, _, hl2, _, _, hls, _⟩ := blkGet hbs (Below.refl _ _) h2
  subst hp
  have hbb3 := lt_of_cell d0
  obtain ⟨b4, o4, q4, c4, hp, f0, f1, f2, f3, f4, f5, f6, f7, _, _, _, _, _, _, _⟩ := insGet hls (Below.refl _ _) h3
  subst hp
  have hbb4 := lt_of_cell f0
  have hc1 : b2 < w3.heap.size + 1 := by omega
  have hc2 : b3 < w3.heap.size + 1 := by omega
  have hc3 : b4 < w3.heap.size + 1 := by omega
  have hc4 : b2 < w3.heap.size + 1 + 1 := by omega
  have hc5 : b3 < w3.heap.size + 1 + 1 := by omega
  have hc6 : b4 < w3.heap.size + 1 + 1 := by omega
  have hc7 : w.heap.size < w3.heap.size + 1 + 1 := by omega
  have g1 : (0 : Int) ≤ (k' : Int) := by omega
  have g2 : (k' : Int) < u.funcs.length := by omega
  have g3 : (0 : Int) ≤ (b' : Int) := by omega
  have g4 : (b' : Int) < u.funcs[k'].blocks.length := by omega
  have g5 : (0 : Int) ≤ (i' : Int) := by omega
  have g6 : (i' : Int) < u.funcs[k'].blocks[b'].list.length := by omega
  have hz12 : w.heap.size < w2.heap.size + 1 := by omega
  have hz13 : w.heap.size < w1.heap.size + 1 := by omega
  clear hls hbs e0 e1 e2 d0 d2 d3 d4 d5
  go_wp2
  go_region_held3 (fun w' => w'.cell? ⟨w1.heap.size, 0, none⟩ = some (.int .i64 0) ∧ w'.cell? ⟨w.heap.size, 0, none⟩ = some (.slice gp u.globals.length gc) ∧ w'.cell? ⟨w.heap.size, 1, none⟩ = some (.slice (some ⟨b2, o2, none⟩) u.funcs.length fc) ∧ w'.cell? ⟨b2, o2 + k' * 4 + 3, none⟩ = some (.slice (some ⟨b3, o3, none⟩) u.funcs[k'].blocks.length c) ∧ w'.cell? ⟨b3, o3 + b' * 6 + 1, none⟩ = some (.slice (some ⟨b4, o4, none⟩) u.funcs[k'].blocks[b'].list.length c2) ∧ w'.cell? ⟨b4, o4 + i' * 8, none⟩ = some (.int .i64 u.funcs[k'].blocks[b'].list[i'].op) ∧ w'.cell? ⟨b4, o4 + i' * 8 + 1, none⟩ = some (.int .i64 u.funcs[k'].blocks[b'].list[i'].dst) ∧ w'.cell? ⟨b4, o4 + i' * 8 + 2, none⟩ = some (.bool u.funcs[k'].blocks[b'].list[i'].ar) ∧ w'.cell? ⟨b4, o4 + i' * 8 + 3, none⟩ = some (.int .i64 u.funcs[k'].blocks[b'].list[i'].an) ∧ w'.cell? ⟨b4, o4 + i' * 8 + 4, none⟩ = some (.bool u.funcs[k'].blocks[b'].list[i'].br) ∧ w'.cell? ⟨b4, o4 + i' * 8 + 5, none⟩ = some (.int .i64 u.funcs[k'].blocks[b'].list[i'].bn) ∧ w'.cell? ⟨b4, o4 + i' * 8 + 6, none⟩ = some (.int .i64 u.funcs[k'].blocks[b'].list[i'].fn) ∧ w'.cell? ⟨b4, o4 + i' * 8 + 7, none⟩ = some (.slice q4 u.funcs[k'].blocks[b'].list[i'].args.length c4)) (first | (go_keep; done) | (simp [World.cell?_alloc_past, *]; done))
    (first | (go_at_call 16; refine (pureEnds_any u _ _ _ _ _ _ _ _ _ _ _ _ _ _ _ _ hgl ?_ HWD.out).mono ?_; (exact glosMono HG.out (by repeat (first | with_reducible exact Below.refl _ _ | with_reducible exact HB3.out | with_reducible refine Below.drew ?_ | with_reducible refine below_drewN ?_ _ | with_reducible refine Below.setCell ?_ ?_ _ | with_reducible refine Below.alloc ?_ ?_ _ | with_reducible exact HB2.out | with_reducible exact HB1.out | with_reducible refine Below.trans ?_ (Below.mono hb3 ?_) | with_reducible refine Below.trans ?_ (Below.mono hb5 ?_) | with_reducible refine Below.trans ?_ (Below.mono hb4 ?_) | omega | (simp; omega) | simp))); rintro e w4 ⟨rfl, hb4⟩; obtain ⟨hcq, hfq, hzq⟩ := bcell hb4; simp at hzq))
  all_goals
    go_wp2
    go_ret
    refine ⟨?_, ?_⟩
    · simp
    · refine Below.trans ?_ (hb4.mono (by simp; omega))
      repeat (first | with_reducible exact Below.refl _ _ | with_reducible exact HB3.out | with_reducible refine Below.drew ?_ | with_reducible refine below_drewN ?_ _ | with_reducible refine Below.setCell ?_ ?_ _ | with_reducible refine Below.alloc ?_ ?_ _ | with_reducible exact HB2.out | with_reducible exact HB1.out | with_reducible refine Below.trans ?_ (Below.mono hb3 ?_) | with_reducible refine Below.trans ?_ (Below.mono hb5 ?_) | with_reducible refine Below.trans ?_ (Below.mono hb4 ?_) | omega | (simp; omega) | simp)

theorem esays_all (u : UniL) (gp fp : Option Addr) (gc fc : Nat) (k b i : Int) (w : World) (hgl : u.globals.length * 48 ≤ 140737488351232) (hG : SliceAt w 3 (GloR w) gp u.globals) (hfl : u.funcs.length * 56 ≤ 140737488351232) (hF : SliceAt w 4 (FunR w) fp u.funcs) (hw0 : Ways w) (_ : I64 k) (_ : I64 b) (_ : I64 i) :
    Calls Tryd.prog 3 #[.agg #[.slice gp u.globals.length gc, .slice fp u.funcs.length fc], .int .i64 k, .int .i64 b, .int .i64 i] w fun e w' => e = .returned (.bool true) ∧ Below w.heap.size w w' := by
  by_cases h : (chk u).1 = 0
  · cases hi : insAt u k b i with
    | none => exact esays_out u gp fp gc fc k b i w hgl hG hfl hF hw0 h hi
    | some x => exact esays_in u gp fp gc fc k b i w hgl hG hfl hF hw0 h x hi
  · exact esays_bad u gp fp gc fc k b i w hgl hG hfl hF hw0 h
end Go.Proofs.YteckkdmgkikeaaaDoor
