/-
  The law CallsAhead, walked out of the contracts.
-/
import Derived.Test.YteckkdmgkikeaaaDoorCalZ
import Derived.Test.YteckkdmgkikeaaaDoorCalAa
import Derived.Test.YteckkdmgkikeaaaDoorPurC
import Derived.Deep.RegionWith
import Derived.BigQuiet
import Derived.Deep.QuietTactic
import Derived.WalkKit
import Derived.WalkSpells
import Derived.WalkLawsBesides
namespace Go.Proofs.YteckkdmgkikeaaaDoor
open Go.RowKit

set_option maxRecDepth 100000 in
set_option maxHeartbeats 1000000 in
theorem ahd_bad (u : UniL) (gp fp : Option Addr) (gc fc : Nat) (w : World) (hgl : u.globals.length * 48 ≤ 140737488351232) (hG : SliceAt w 3 (GloR w) gp u.globals) (hfl : u.funcs.length * 56 ≤ 140737488351232) (hF : SliceAt w 4 (FunR w) fp u.funcs) (hw0 : Ways w) (h : (chk u).1 ≠ 0) :
    Calls Tryd.prog 8 #[.agg #[.slice gp u.globals.length gc, .slice fp u.funcs.length fc]] w fun e w' => e = .returned (.bool true) ∧ Below w.heap.size w w' := by
  have HG := hidI hG
  have HF := hidI hF
  have HW := hidI hw0
  have HH := hidI h
  have hne : ((chk u).1 != 0) = true := by simp [h]
  have hq : ∀ w, (binOp .eql 27 (.agg #[.int .i64 (chk u).1, .int .i64 (chk u).2]) (.agg #[.int .i64 (chk u).1, .int .i64 (chk u).2])).run Tryd.prog w = .ok (.bool true) w := fun w => by rw [run_eqFault]; simp
  clear hG hF hw0 h
  go_enter Tryd.func8, Tryd.ntmps8
  go_wp2_with fail
  refine (ord_bad u _ _ _ _ _ hgl (glosMono HG.out (by repeat (first | with_reducible exact Below.refl _ _ | with_reducible exact HB3.out | with_reducible refine Below.drew ?_ | with_reducible refine below_drewN ?_ _ | with_reducible refine Below.setCell ?_ ?_ _ | with_reducible refine Below.alloc ?_ ?_ _ | with_reducible exact HB2.out | with_reducible exact HB1.out | with_reducible refine Below.trans ?_ (Below.mono hb3 ?_) | with_reducible refine Below.trans ?_ (Below.mono hb5 ?_) | with_reducible refine Below.trans ?_ (Below.mono hb4 ?_) | omega | (simp; omega) | simp))) hfl (funsMono HF.out (by repeat (first | with_reducible exact Below.refl _ _ | with_reducible exact HB3.out | with_reducible refine Below.drew ?_ | with_reducible refine below_drewN ?_ _ | with_reducible refine Below.setCell ?_ ?_ _ | with_reducible refine Below.alloc ?_ ?_ _ | with_reducible exact HB2.out | with_reducible exact HB1.out | with_reducible refine Below.trans ?_ (Below.mono hb3 ?_) | with_reducible refine Below.trans ?_ (Below.mono hb5 ?_) | with_reducible refine Below.trans ?_ (Below.mono hb4 ?_) | omega | (simp; omega) | simp))) (HW.out.below (by repeat (first | with_reducible exact Below.refl _ _ | with_reducible exact HB3.out | with_reducible refine Below.drew ?_ | with_reducible refine below_drewN ?_ _ | with_reducible refine Below.setCell ?_ ?_ _ | with_reducible refine Below.alloc ?_ ?_ _ | with_reducible exact HB2.out | with_reducible exact HB1.out | with_reducible refine Below.trans ?_ (Below.mono hb3 ?_) | with_reducible refine Below.trans ?_ (Below.mono hb5 ?_) | with_reducible refine Below.trans ?_ (Below.mono hb4 ?_) | omega | (simp; omega) | simp))) HH.out).mono ?_
  rintro e w1 ⟨rfl, hb1⟩
  have HB1 : Hid (Below w.heap.size w w1) := Below.trans (by repeat (first | with_reducible exact Below.refl _ _ | with_reducible exact HB3.out | with_reducible refine Below.drew ?_ | with_reducible refine below_drewN ?_ _ | with_reducible refine Below.setCell ?_ ?_ _ | with_reducible refine Below.alloc ?_ ?_ _ | with_reducible exact HB2.out | with_reducible exact HB1.out | with_reducible refine Below.trans ?_ (Below.mono hb3 ?_) | with_reducible refine Below.trans ?_ (Below.mono hb5 ?_) | with_reducible refine Below.trans ?_ (Below.mono hb4 ?_) | omega | (simp; omega) | simp)) (hb1.mono (by simp))
  have hc0 := fun o => (blk (heap_below hb1 (k := w.heap.size) (by simp) (heap_here w _))).1 o
  have hz1 : w.heap.size < w1.heap.size := by have := hb1.size; simp at this; omega
  clear hb1
  go_wp2_with fail
  refine (gr_bad u _ _ _ _ _ hgl (glosMono HG.out (by repeat (first | with_reducible exact Below.refl _ _ | with_reducible exact HB3.out | with_reducible refine Below.drew ?_ | with_reducible refine below_drewN ?_ _ | with_reducible refine Below.setCell ?_ ?_ _ | with_reducible refine Below.alloc ?_ ?_ _ | with_reducible exact HB2.out | with_reducible exact HB1.out | with_reducible refine Below.trans ?_ (Below.mono hb3 ?_) | with_reducible refine Below.trans ?_ (Below.mono hb5 ?_) | with_reducible refine Below.trans ?_ (Below.mono hb4 ?_) | omega | (simp; omega) | simp))) hfl (funsMono HF.out (by repeat (first | with_reducible exact Below.refl _ _ | with_reducible exact HB3.out | with_reducible refine Below.drew ?_ | with_reducible refine below_drewN ?_ _ | with_reducible refine Below.setCell ?_ ?_ _ | with_reducible refine Below.alloc ?_ ?_ _ | with_reducible exact HB2.out | with_reducible exact HB1.out | with_reducible refine Below.trans ?_ (Below.mono hb3 ?_) | with_reducible refine Below.trans ?_ (Below.mono hb5 ?_) | with_reducible refine Below.trans ?_ (Below.mono hb4 ?_) | omega | (simp; omega) | simp))) (HW.out.below (by repeat (first | with_reducible exact Below.refl _ _ | with_reducible exact HB3.out | with_reducible refine Below.drew ?_ | with_reducible refine below_drewN ?_ _ | with_reducible refine Below.setCell ?_ ?_ _ | with_reducible refine Below.alloc ?_ ?_ _ | with_reducible exact HB2.out | with_reducible exact HB1.out | with_reducible refine Below.trans ?_ (Below.mono hb3 ?_) | with_reducible refine Below.trans ?_ (Below.mono hb5 ?_) | with_reducible refine Below.trans ?_ (Below.mono hb4 ?_) | omega | (simp; omega) | simp))) HH.out).mono ?_
  rintro e w2 ⟨rfl, hb2⟩
  have HB2 : Hid (Below w.heap.size w w2) := Below.trans (by repeat (first | with_reducible exact Below.refl _ _ | with_reducible exact HB3.out | with_reducible refine Below.drew ?_ | with_reducible refine below_drewN ?_ _ | with_reducible refine Below.setCell ?_ ?_ _ | with_reducible refine Below.alloc ?_ ?_ _ | with_reducible exact HB2.out | with_reducible exact HB1.out | with_reducible refine Below.trans ?_ (Below.mono hb3 ?_) | with_reducible refine Below.trans ?_ (Below.mono hb5 ?_) | with_reducible refine Below.trans ?_ (Below.mono hb4 ?_) | omega | (simp; omega) | simp)) (hb2.mono (by simp; omega))
  have hz2 : w.heap.size < w2.heap.size := by have := hb2.size; simp at this; omega
  have hz3 : w1.heap.size < w2.heap.size := by have := hb2.size; simp at this; omega
  obtain ⟨hcc2, hcf2, _⟩ := bcell hb2
  clear hb2
  go_wp2_with fail
  refine (rg_bad u _ _ _ _ _ hgl (glosMono HG.out (by repeat (first | with_reducible exact Below.refl _ _ | with_reducible exact HB3.out | with_reducible refine Below.drew ?_ | with_reducible refine below_drewN ?_ _ | with_reducible refine Below.setCell ?_ ?_ _ | with_reducible refine Below.alloc ?_ ?_ _ | with_reducible exact HB2.out | with_reducible exact HB1.out | with_reducible refine Below.trans ?_ (Below.mono hb3 ?_) | with_reducible refine Below.trans ?_ (Below.mono hb5 ?_) | with_reducible refine Below.trans ?_ (Below.mono hb4 ?_) | omega | (simp; omega) | simp))) hfl (funsMono HF.out (by repeat (first | with_reducible exact Below.refl _ _ | with_reducible exact HB3.out | with_reducible refine Below.drew ?_ | with_reducible refine below_drewN ?_ _ | with_reducible refine Below.setCell ?_ ?_ _ | with_reducible refine Below.alloc ?_ ?_ _ | with_reducible exact HB2.out | with_reducible exact HB1.out | with_reducible refine Below.trans ?_ (Below.mono hb3 ?_) | with_reducible refine Below.trans ?_ (Below.mono hb5 ?_) | with_reducible refine Below.trans ?_ (Below.mono hb4 ?_) | omega | (simp; omega) | simp))) (HW.out.below (by repeat (first | with_reducible exact Below.refl _ _ | with_reducible exact HB3.out | with_reducible refine Below.drew ?_ | with_reducible refine below_drewN ?_ _ | with_reducible refine Below.setCell ?_ ?_ _ | with_reducible refine Below.alloc ?_ ?_ _ | with_reducible exact HB2.out | with_reducible exact HB1.out | with_reducible refine Below.trans ?_ (Below.mono hb3 ?_) | with_reducible refine Below.trans ?_ (Below.mono hb5 ?_) | with_reducible refine Below.trans ?_ (Below.mono hb4 ?_) | omega | (simp; omega) | simp))) HH.out).mono ?_
  rintro e w3 ⟨rfl, hb3⟩
  have HB3 : Hid (Below w.heap.size w w3) := Below.trans (by repeat (first | with_reducible exact Below.refl _ _ | with_reducible exact HB3.out | with_reducible refine Below.drew ?_ | with_reducible refine below_drewN ?_ _ | with_reducible refine Below.setCell ?_ ?_ _ | with_reducible refine Below.alloc ?_ ?_ _ | with_reducible exact HB2.out | with_reducible exact HB1.out | with_reducible refine Below.trans ?_ (Below.mono hb3 ?_) | with_reducible refine Below.trans ?_ (Below.mono hb5 ?_) | with_reducible refine Below.trans ?_ (Below.mono hb4 ?_) | omega | (simp; omega) | simp)) (hb3.mono (by simp; omega))
  have hz4 : w.heap.size < w3.heap.size := by have := hb3.size; simp at this; omega
  have hz5 : w1.heap.size < w3.heap.size := by have := hb3.size; simp at this; omega
  have hz6 : w2.heap.size < w3.heap.size := by have := hb3.size; simp at this; omega
  obtain ⟨hcc3, hcf3, _⟩ := bcell hb3
  clear hb3
  go_wp2
  go_ret
  refine ⟨rfl, by repeat (first | with_reducible exact Below.refl _ _ | with_reducible exact HB3.out | with_reducible refine Below.drew ?_ | with_reducible refine below_drewN ?_ _ | with_reducible refine Below.setCell ?_ ?_ _ | with_reducible refine Below.alloc ?_ ?_ _ | with_reducible exact HB2.out | with_reducible exact HB1.out | with_reducible refine Below.trans ?_ (Below.mono hb3 ?_) | with_reducible refine Below.trans ?_ (Below.mono hb5 ?_) | with_reducible refine Below.trans ?_ (Below.mono hb4 ?_) | omega | (simp; omega) | simp)⟩

set_option maxRecDepth 100000 in
set_option maxHeartbeats 2000000 in
theorem ahd_ok (u : UniL) (gp fp : Option Addr) (gc fc : Nat) (w : World) (hgl : u.globals.length * 48 ≤ 140737488351232) (hG : SliceAt w 3 (GloR w) gp u.globals) (hfl : u.funcs.length * 56 ≤ 140737488351232) (hF : SliceAt w 4 (FunR w) fp u.funcs) (hw0 : Ways w) (h : (chk u).1 = 0) :
    Calls Tryd.prog 8 #[.agg #[.slice gp u.globals.length gc, .slice fp u.funcs.length fc]] w fun e w' => e = .returned (.bool true) ∧ Below w.heap.size w w' := by
  obtain ⟨i1, k1, k2, k3, k4⟩ := info_parts infoInt6
  have HG := hidI hG
  have HF := hidI hF
  have HW := hidI hw0
  have HH := hidI h
  have hnf := (chk_ok h).2.nf
  have hmk := run_make_row 39 3 i1 (.int .i64 0) underInts6 k1 k2 k3 rfl .i64 .i64 u.funcs.length (by rw [k4]; omega) (by omega)
  obtain ⟨m, hm, _⟩ := (chk_ok h).2.main
  have hpos : 0 < u.funcs.length := Nat.lt_of_le_of_lt (Nat.zero_le _) (mainI_lt hm)
  have hne : ((u.funcs.length : Int) == 0) = false := by rw [beq_eq_false_iff_ne]; omega
  have hne2 : ((u.funcs.length : Int) != u.funcs.length) = false := by simp
  clear hG hF hw0 h hm
  go_enter Tryd.func8, Tryd.ntmps8
  go_wp2_with fail
  refine (ord_ok u _ _ _ _ _ hgl (glosMono HG.out (by repeat (first | with_reducible exact Below.refl _ _ | with_reducible exact HB3.out | with_reducible refine Below.drew ?_ | with_reducible refine below_drewN ?_ _ | with_reducible refine Below.setCell ?_ ?_ _ | with_reducible refine Below.alloc ?_ ?_ _ | with_reducible exact HB2.out | with_reducible exact HB1.out | with_reducible refine Below.trans ?_ (Below.mono hb3 ?_) | with_reducible refine Below.trans ?_ (Below.mono hb5 ?_) | with_reducible refine Below.trans ?_ (Below.mono hb4 ?_) | omega | (simp; omega) | simp))) hfl (funsMono HF.out (by repeat (first | with_reducible exact Below.refl _ _ | with_reducible exact HB3.out | with_reducible refine Below.drew ?_ | with_reducible refine below_drewN ?_ _ | with_reducible refine Below.setCell ?_ ?_ _ | with_reducible refine Below.alloc ?_ ?_ _ | with_reducible exact HB2.out | with_reducible exact HB1.out | with_reducible refine Below.trans ?_ (Below.mono hb3 ?_) | with_reducible refine Below.trans ?_ (Below.mono hb5 ?_) | with_reducible refine Below.trans ?_ (Below.mono hb4 ?_) | omega | (simp; omega) | simp))) (HW.out.below (by repeat (first | with_reducible exact Below.refl _ _ | with_reducible exact HB3.out | with_reducible refine Below.drew ?_ | with_reducible refine below_drewN ?_ _ | with_reducible refine Below.setCell ?_ ?_ _ | with_reducible refine Below.alloc ?_ ?_ _ | with_reducible exact HB2.out | with_reducible exact HB1.out | with_reducible refine Below.trans ?_ (Below.mono hb3 ?_) | with_reducible refine Below.trans ?_ (Below.mono hb5 ?_) | with_reducible refine Below.trans ?_ (Below.mono hb4 ?_) | omega | (simp; omega) | simp))) HH.out).mono ?_
  rintro e w1 ⟨p1, c1, rfl, hS1, hb1⟩
  have HS1 := hidI hS1
  have HB1 : Hid (Below w.heap.size w w1) := Below.trans (by repeat (first | with_reducible exact Below.refl _ _ | with_reducible exact HB3.out | with_reducible refine Below.drew ?_ | with_reducible refine below_drewN ?_ _ | with_reducible refine Below.setCell ?_ ?_ _ | with_reducible refine Below.alloc ?_ ?_ _ | with_reducible exact HB2.out | with_reducible exact HB1.out | with_reducible refine Below.trans ?_ (Below.mono hb3 ?_) | with_reducible refine Below.trans ?_ (Below.mono hb5 ?_) | with_reducible refine Below.trans ?_ (Below.mono hb4 ?_) | omega | (simp; omega) | simp)) (hb1.mono (by simp))
  have hc0 := fun o => (blk (heap_below hb1 (k := w.heap.size) (by simp) (heap_here w _))).1 o
  have hz1 : w.heap.size < w1.heap.size := by have := hb1.size; simp at this; omega
  clear hb1 hS1
  go_wp2_with fail
  refine (gr_ok u _ _ _ _ _ hgl (glosMono HG.out (by repeat (first | with_reducible exact Below.refl _ _ | with_reducible exact HB3.out | with_reducible refine Below.drew ?_ | with_reducible refine below_drewN ?_ _ | with_reducible refine Below.setCell ?_ ?_ _ | with_reducible refine Below.alloc ?_ ?_ _ | with_reducible exact HB2.out | with_reducible exact HB1.out | with_reducible refine Below.trans ?_ (Below.mono hb3 ?_) | with_reducible refine Below.trans ?_ (Below.mono hb5 ?_) | with_reducible refine Below.trans ?_ (Below.mono hb4 ?_) | omega | (simp; omega) | simp))) hfl (funsMono HF.out (by repeat (first | with_reducible exact Below.refl _ _ | with_reducible exact HB3.out | with_reducible refine Below.drew ?_ | with_reducible refine below_drewN ?_ _ | with_reducible refine Below.setCell ?_ ?_ _ | with_reducible refine Below.alloc ?_ ?_ _ | with_reducible exact HB2.out | with_reducible exact HB1.out | with_reducible refine Below.trans ?_ (Below.mono hb3 ?_) | with_reducible refine Below.trans ?_ (Below.mono hb5 ?_) | with_reducible refine Below.trans ?_ (Below.mono hb4 ?_) | omega | (simp; omega) | simp))) (HW.out.below (by repeat (first | with_reducible exact Below.refl _ _ | with_reducible exact HB3.out | with_reducible refine Below.drew ?_ | with_reducible refine below_drewN ?_ _ | with_reducible refine Below.setCell ?_ ?_ _ | with_reducible refine Below.alloc ?_ ?_ _ | with_reducible exact HB2.out | with_reducible exact HB1.out | with_reducible refine Below.trans ?_ (Below.mono hb3 ?_) | with_reducible refine Below.trans ?_ (Below.mono hb5 ?_) | with_reducible refine Below.trans ?_ (Below.mono hb4 ?_) | omega | (simp; omega) | simp))) HH.out).mono ?_
  rintro e w2 ⟨T2, rfl, hS2, hb2⟩
  have HS2 := hidI hS2
  have HB2 : Hid (Below w.heap.size w w2) := Below.trans (by repeat (first | with_reducible exact Below.refl _ _ | with_reducible exact HB3.out | with_reducible refine Below.drew ?_ | with_reducible refine below_drewN ?_ _ | with_reducible refine Below.setCell ?_ ?_ _ | with_reducible refine Below.alloc ?_ ?_ _ | with_reducible exact HB2.out | with_reducible exact HB1.out | with_reducible refine Below.trans ?_ (Below.mono hb3 ?_) | with_reducible refine Below.trans ?_ (Below.mono hb5 ?_) | with_reducible refine Below.trans ?_ (Below.mono hb4 ?_) | omega | (simp; omega) | simp)) (hb2.mono (by simp; omega))
  have H12 : Hid (Below w1.heap.size w1 w2) := ((Below.refl _ _).alloc (Nat.le_refl _) _).trans (hb2.mono (by simp))
  have hz2 : w.heap.size < w2.heap.size := by have := hb2.size; simp at this; omega
  have hz3 : w1.heap.size < w2.heap.size := by have := hb2.size; simp at this; omega
  obtain ⟨hcc2, hcf2, _⟩ := bcell hb2
  clear hb2 hS2
  go_wp2_with fail
  refine (rg_ok u _ _ _ _ _ hgl (glosMono HG.out (by repeat (first | with_reducible exact Below.refl _ _ | with_reducible exact HB3.out | with_reducible refine Below.drew ?_ | with_reducible refine below_drewN ?_ _ | with_reducible refine Below.setCell ?_ ?_ _ | with_reducible refine Below.alloc ?_ ?_ _ | with_reducible exact HB2.out | with_reducible exact HB1.out | with_reducible refine Below.trans ?_ (Below.mono hb3 ?_) | with_reducible refine Below.trans ?_ (Below.mono hb5 ?_) | with_reducible refine Below.trans ?_ (Below.mono hb4 ?_) | omega | (simp; omega) | simp))) hfl (funsMono HF.out (by repeat (first | with_reducible exact Below.refl _ _ | with_reducible exact HB3.out | with_reducible refine Below.drew ?_ | with_reducible refine below_drewN ?_ _ | with_reducible refine Below.setCell ?_ ?_ _ | with_reducible refine Below.alloc ?_ ?_ _ | with_reducible exact HB2.out | with_reducible exact HB1.out | with_reducible refine Below.trans ?_ (Below.mono hb3 ?_) | with_reducible refine Below.trans ?_ (Below.mono hb5 ?_) | with_reducible refine Below.trans ?_ (Below.mono hb4 ?_) | omega | (simp; omega) | simp))) (HW.out.below (by repeat (first | with_reducible exact Below.refl _ _ | with_reducible exact HB3.out | with_reducible refine Below.drew ?_ | with_reducible refine below_drewN ?_ _ | with_reducible refine Below.setCell ?_ ?_ _ | with_reducible refine Below.alloc ?_ ?_ _ | with_reducible exact HB2.out | with_reducible exact HB1.out | with_reducible refine Below.trans ?_ (Below.mono hb3 ?_) | with_reducible refine Below.trans ?_ (Below.mono hb5 ?_) | with_reducible refine Below.trans ?_ (Below.mono hb4 ?_) | omega | (simp; omega) | simp))) HH.out).mono ?_
  rintro e w3 ⟨T3, rfl, hS3, hb3⟩
  have HS3 := hidI hS3
  have HB3 : Hid (Below w.heap.size w w3) := Below.trans (by repeat (first | with_reducible exact Below.refl _ _ | with_reducible exact HB3.out | with_reducible refine Below.drew ?_ | with_reducible refine below_drewN ?_ _ | with_reducible refine Below.setCell ?_ ?_ _ | with_reducible refine Below.alloc ?_ ?_ _ | with_reducible exact HB2.out | with_reducible exact HB1.out | with_reducible refine Below.trans ?_ (Below.mono hb3 ?_) | with_reducible refine Below.trans ?_ (Below.mono hb5 ?_) | with_reducible refine Below.trans ?_ (Below.mono hb4 ?_) | omega | (simp; omega) | simp)) (hb3.mono (by simp; omega))
  have H23 : Hid (Below w2.heap.size w2 w3) := ((Below.refl _ _).alloc (Nat.le_refl _) _).trans (hb3.mono (by simp))
  have hz4 : w.heap.size < w3.heap.size := by have := hb3.size; simp at this; omega
  have hz5 : w1.heap.size < w3.heap.size := by have := hb3.size; simp at this; omega
  have hz6 : w2.heap.size < w3.heap.size := by have := hb3.size; simp at this; omega
  obtain ⟨hcc3, hcf3, _⟩ := bcell hb3
  clear hb3 hS3
  go_wp2_with fail
  have HAt := hidI (orderU_ok u.funcs)
  have HOl := hidI (orderU_len u.funcs)
  have hb13 : Below w1.heap.size w1 w3 := H12.out.trans (H23.out.mono (by omega))
  have HK1 : Hid (∀ W, Below w3.heap.size w3 W → SliceAt W 1 IntR p1 (intsN (orderU u.funcs))) := fun W h => HS1.out.mono (hb13.trans (h.mono (by omega))) (by omega) fun _ _ h => h
  have HK2 : Hid (∀ W, Below w3.heap.size w3 W → SliceAt W 1 (IntsR W) (some ⟨T2, 0, none⟩) (graphTo u.funcs u.funcs.length)) := fun W h => rows_below HS2.out (H23.out.trans (h.mono (by omega)))
  have HK3 : Hid (∀ W, Below w3.heap.size w3 W → SliceAt W 1 IntR (some ⟨T3, 0, none⟩) (ringsL u.funcs.length (tableU u.funcs))) := fun W h => HS3.out.mono h (by omega) fun _ _ h => h
  have HU0 : Hid (∀ W, Below w3.heap.size w3 W → W.cell? ⟨w.heap.size, 1, none⟩ = some (.slice fp u.funcs.length fc)) := fun W h => (h.cell (p := ⟨w.heap.size, 1, none⟩) hz4).trans ((hcc3 w.heap.size 1 (by simp; omega)).trans (by go_simp))
  clear hcc2 hcf2 hcc3 hcf3 hc0 HS1 HS2 HS3 H12 H23 HB1 HB2 HG HF HW HH hb13
  go_loopw [11] (fun i wr => ∃ m : Nat, m ≤ u.funcs.length ∧ i = .int .i64 m ∧ wr.rowIs (w3.heap.size + 1) 3 u.funcs.length (fun x => .int .i64 (atO (orderU u.funcs) m x)) ∧ Below w3.heap.size w3 wr) (fun i _ => u.funcs.length - (intOf i).toNat)
  case atStart =>
    refine ⟨0, by omega, rfl, ?_, by repeat (first | with_reducible exact Below.refl _ _ | with_reducible exact HB3.out | with_reducible refine Below.drew ?_ | with_reducible refine below_drewN ?_ _ | with_reducible refine Below.setCell ?_ ?_ _ | with_reducible refine Below.alloc ?_ ?_ _ | with_reducible exact HB2.out | with_reducible exact HB1.out | with_reducible refine Below.trans ?_ (Below.mono hb3 ?_) | with_reducible refine Below.trans ?_ (Below.mono hb5 ?_) | with_reducible refine Below.trans ?_ (Below.mono hb4 ?_) | omega | (simp; omega) | simp)⟩
    have hM := World.rowIs_made (w3.alloc (.cells #[.int .i64 0, .int .i64 0] 27)) (.int .i64 0) u.funcs.length 3
    have e : (w3.alloc (.cells #[.int .i64 0, .int .i64 0] 27)).heap.size = w3.heap.size + 1 := by simp
    rw [e] at hM
    exact hM.congr fun j _ => by simp [atO_zero]
  case round =>
    obtain ⟨m, hm, rfl, hrow, hb⟩ := hrel
    by_cases hlt : m < u.funcs.length
    · have hml : m < (intsN (orderU u.funcs)).length := by rw [intsN_len, HOl.out]; exact hlt
      obtain ⟨b1, o1, hp1, d1, -⟩ := intGet (HK1.out _ hb) (Below.refl _ _) hml
      rw [intsN_get] at d1
      have hlow := HAt.out.low _ (List.getElem_mem (show m < (orderU u.funcs).length by rw [HOl.out]; exact hlt))
      have hsucc := fun x => atO_succ HAt.out.nodup (show m < (orderU u.funcs).length by rw [HOl.out]; exact hlt) x
      generalize (orderU u.funcs)[m]'(by rw [HOl.out]; exact hlt) = y at *
      have r1 := hrow.cell hlow
      have r2 := hrow.frozen y
      have z1 := lt_of_cell d1
      have z2 := hrow.lt
      have g0 : (0 : Int) ≤ (y : Int) := by omega
      have g1 : (y : Int) < u.funcs.length := by omega
      have l1 : decide ((y : Int) < 0) = false := decide_eq_false (by omega)
      have l2 : decide ((u.funcs.length : Int) ≤ (y : Int)) = false := decide_eq_false (by omega)
      have l3 : decide (u.funcs.length ≤ y) = false := decide_eq_false (by omega)
      have HR := hidI hrow
      have HB := hidI hb
      have HSu := hidI hsucc
      subst hp1
      clear hrow hb hsucc
      go_wp2_with fail
      refine ⟨⟨m + 1, by omega, by go_num, ?_, HB.out.setCell (by show _ ≤ w3.heap.size + 1; omega) _⟩, by simp [intOf]; omega⟩
      refine (HR.out.set y _).congr fun x _ => ?_
      rw [HSu.out x]
      by_cases e : x = y
      · rw [if_pos e, if_pos e]; rfl
      · rw [if_neg e, if_neg e]
    · obtain rfl : m = u.funcs.length := by omega
      obtain ⟨wo, hwo⟩ : ∃ wo : World, wo = wr := ⟨_, rfl⟩
      rw [← hwo] at hrow hb
      have HR := hidI hrow
      have HB := hidI hb
      have zo := hb.size
      clear hrow hb
      go_wp2_with fail
      subst hwo
      go_loopw [12] (fun i wq => ∃ k : Nat, k ≤ u.funcs.length ∧ i = .int .i64 k ∧ Below wo.heap.size wo wq) (fun i _ => u.funcs.length - (intOf i).toNat)
      case atStart => exact ⟨0, by omega, rfl, Below.refl _ _⟩
      case round =>
        obtain ⟨k, hk, rfl, hb⟩ := hrel
        by_cases hlt : k < u.funcs.length
        · obtain ⟨w5, hw5⟩ : ∃ w5 : World, w5 = wr := ⟨_, rfl⟩
          rw [← hw5] at hb
          have HB5 := hidI hb
          clear hb
          go_wp2_with fail
          subst hw5
          go_loopw [13] (fun i wq => ∃ j : Nat, j ≤ (rowTo u.funcs[k] u.funcs.length).length ∧ i = .int .i64 j ∧ Below w5.heap.size w5 wq) (fun i _ => (rowTo u.funcs[k] u.funcs.length).length - (intOf i).toNat)
          case atStart => exact ⟨0, by omega, rfl, Below.refl _ _⟩
          case round =>
            obtain ⟨j, hj, rfl, hb⟩ := hrel
            have hb3 : Below w3.heap.size w3 wr := HB.out.trans ((HB5.out.trans (hb.mono HB5.out.size)).mono zo)
            have hbo : Below wo.heap.size wo wr := HB5.out.trans (hb.mono HB5.out.size)
            obtain ⟨bg, og, qg, cg, hpg, e0, hlg, hsg⟩ := rowGet (HK2.out _ hb3) (Below.refl _ _) (i := k) (by rw [graphTo_all]; exact hlt)
            have hgk : (graphTo u.funcs u.funcs.length)[k]'(by rw [graphTo_all]; exact hlt) = rowTo u.funcs[k] u.funcs.length := by simp [graphTo]
            rw [hgk] at e0 hlg hsg
            cases hpg
            simp only [Nat.zero_add] at e0
            have HBj := hidI hb
            have zg := lt_of_cell e0
            have k0 : (0 : Int) ≤ (k : Int) := by omega
            have k1 : (k : Int) < u.funcs.length := by omega
            by_cases hlt2 : j < (rowTo u.funcs[k] u.funcs.length).length
            · obtain ⟨bx, ox, hpx, ex, -⟩ := intGet hsg (Below.refl _ _) hlt2
              subst hpx
              have hmem := List.getElem_mem hlt2
              obtain ⟨hx0, hx1⟩ := (graphTo_in u.funcs k (by rw [graphTo_all]; exact hlt)) ((rowTo u.funcs[k] u.funcs.length)[j]) (by rw [hgk]; exact hmem)
              generalize (rowTo u.funcs[k] u.funcs.length)[j] = xi at *
              obtain ⟨x, rfl⟩ := Int.eq_ofNat_of_zero_le hx0
              obtain ⟨hxn, hedge⟩ := rowTo_edge hlt hmem
              have hrk := rowIs_below HR.out hbo
              have ak := hrk.cell hlt
              have ax := hrk.cell hxn
              obtain ⟨br, or, hpr, rk, -⟩ := intGet (HK3.out _ hb3) (Below.refl _ _) (i := k) (by rw [ringsL_len]; exact hlt)
              obtain ⟨br', or', hpr', rx, -⟩ := intGet (HK3.out _ hb3) (Below.refl _ _) (i := x) (by rw [ringsL_len]; exact hxn)
              cases hpr
              cases hpr'
              rw [ringsL_get] at rk rx
              simp only [Nat.zero_add] at rk rx
              have hpos := HAt.out.at_pos HOl.out hlt
              have hahead := fun hne => HAt.out.at_lt HOl.out hlt hxn hedge hne
              generalize ringN u.funcs.length (tableU u.funcs) k = rgk at *
              generalize ringN u.funcs.length (tableU u.funcs) x = rgx at *
              generalize atO (orderU u.funcs) u.funcs.length k = atk at *
              generalize atO (orderU u.funcs) u.funcs.length x = atx at *
              have z1 := lt_of_cell ex
              have z2 := lt_of_cell ak
              have z3 := lt_of_cell rk
              have x0 : (0 : Int) ≤ (x : Int) := by omega
              have x1 : (x : Int) < u.funcs.length := by omega
              have l1 : decide ((x : Int) < 0) = false := decide_eq_false (by omega)
              have l2 : decide ((u.funcs.length : Int) ≤ (x : Int)) = false := decide_eq_false (by omega)
              have l3 : decide (u.funcs.length ≤ x) = false := decide_eq_false (by omega)
              have l4 : ((atk : Int) == 0) = false := by rw [beq_eq_false_iff_ne]; omega
              by_cases hne : rgx = rgk
              · have l5 : ((rgx : Int) != (rgk : Int)) = false := by simp [hne]
                clear hne hahead hrk hsg hb hbo hb3 hgk hmem hedge hx0 hx1
                go_wp2_with fail
                go_quiet (fail)
                go_wp2_with fail
                exact ⟨⟨j + 1, by omega, by go_num, below_drewN HBj.out _⟩, by simp [intOf]; omega⟩
              · have hlt3 := hahead hne
                have l5 : ((rgx : Int) != (rgk : Int)) = true := by simp; omega
                have l6 : decide ((atk : Int) ≤ (atx : Int)) = false := decide_eq_false (by omega)
                have l7 : decide (atk ≤ atx) = false := decide_eq_false (by omega)
                clear hne hahead hrk hsg hb hbo hb3 hgk hmem hedge hx0 hx1
                go_wp2_with fail
                go_quiet (fail)
                go_wp2_with fail
                exact ⟨⟨j + 1, by omega, by go_num, below_drewN HBj.out _⟩, by simp [intOf]; omega⟩
            · obtain rfl : j = (rowTo u.funcs[k] u.funcs.length).length := by omega
              clear hsg hbo hb3 hgk
              go_wp2_with fail
              exact ⟨⟨k + 1, by omega, by go_num, HB5.out.trans (HBj.out.mono HB5.out.size)⟩, by simp [intOf]; omega⟩
        · obtain rfl : k = u.funcs.length := by omega
          have HBk := hidI hb
          go_wp2_with fail
          go_ret
          exact ⟨rfl, HB3.out.trans ((HB.out.trans (HBk.out.mono zo)).mono HB3.out.size)⟩
theorem ahd_all (u : UniL) (gp fp : Option Addr) (gc fc : Nat) (w : World) (hgl : u.globals.length * 48 ≤ 140737488351232) (hG : SliceAt w 3 (GloR w) gp u.globals) (hfl : u.funcs.length * 56 ≤ 140737488351232) (hF : SliceAt w 4 (FunR w) fp u.funcs) (hw0 : Ways w) :
    Calls Tryd.prog 8 #[.agg #[.slice gp u.globals.length gc, .slice fp u.funcs.length fc]] w fun e w' => e = .returned (.bool true) ∧ Below w.heap.size w w' := by
  by_cases h : (chk u).1 = 0
  · exact ahd_ok u gp fp gc fc w hgl hG hfl hF hw0 h
  · exact ahd_bad u gp fp gc fc w hgl hG hfl hF hw0 h
end Go.Proofs.YteckkdmgkikeaaaDoor
