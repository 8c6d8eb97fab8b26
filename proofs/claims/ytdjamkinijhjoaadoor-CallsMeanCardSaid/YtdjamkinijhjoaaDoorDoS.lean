/-
  The law CallsDoSays, walked out of the contracts.
-/
import Derived.Test.YtdjamkinijhjoaaDoorCdoB
import Derived.Test.YtdjamkinijhjoaaDoorRcD
import Derived.Test.YtdjamkinijhjoaaDoorBSam
import Derived.WalkKit
import Derived.WalkSpells
import Derived.WalkLawsBesides
namespace Go.Proofs.YtdjamkinijhjoaaDoor
open Go.RowKit Go.Shelf

theorem unitAt {w : World} {u : UniL} {gp fp : Option Addr} {gc fc : Nat} (hG : SlF w 3 48 (GloR w) (.slice gp u.globals.length gc) u.globals) (hF : SlF w 4 56 (FunR w) (.slice fp u.funcs.length fc) u.funcs) :
    (u.globals.length * 48 ≤ 140737488351232 ∧ SliceAt w 3 (GloR w) gp u.globals) ∧ u.funcs.length * 56 ≤ 140737488351232 ∧ SliceAt w 4 (FunR w) fp u.funcs := by
  obtain ⟨_, _, e1, _, _, h1⟩ := hG.outC
  obtain ⟨_, _, e2, _, _, h2⟩ := hF.outC
  cases e1
  cases e2
  exact ⟨⟨hG.bdC, h1⟩, hF.bdC, h2⟩

set_option maxRecDepth 100000 in
set_option maxHeartbeats 1000000 in
theorem dsays_bad (u : UniL) (gp fp : Option Addr) (gc fc : Nat) (w : World) (hG0 : SlF w 3 48 (GloR w) (.slice gp u.globals.length gc) u.globals) (hF0 : SlF w 4 56 (FunR w) (.slice fp u.funcs.length fc) u.funcs) (hw0 : Ways w) (h : (chk u).1 ≠ 0) :
    Calls Tryd.prog 5 #[.agg #[.slice gp u.globals.length gc, .slice fp u.funcs.length fc]] w fun e w' => e = .returned (.bool true) ∧ Below w.heap.size w w' := by
  obtain ⟨⟨hgl, hG⟩, hfl, hF⟩ := unitAt hG0 hF0
  have HG := hidI hG
  have HF := hidI hF
  have HW := hidI hw0
  have HH := hidI h
  have hne : ((chk u).1 != 0) = true := by simp [h]
  have hq : ∀ w, (binOp .eql 28 (.agg #[.int .i64 (chk u).1, .int .i64 (chk u).2]) (.agg #[.int .i64 (chk u).1, .int .i64 (chk u).2])).run Tryd.prog w = .ok (.bool true) w := fun w => by rw [run_eqFault]; simp
  clear hG hF hG0 hF0 hw0 h
  go_enter Tryd.func5, Tryd.ntmps5
  go_wp2_with fail
  refine (do_bad u _ _ _ _ _ hgl (glosMono HG.out (by repeat (first | with_reducible exact Below.refl _ _ | with_reducible exact HB3.out | with_reducible refine Below.drew ?_ | with_reducible refine below_drewN ?_ _ | with_reducible refine Below.setCell ?_ ?_ _ | with_reducible refine Below.alloc ?_ ?_ _ | with_reducible exact HB2.out | with_reducible exact HB1.out | with_reducible refine Below.trans ?_ (Below.mono hb3 ?_) | with_reducible refine Below.trans ?_ (Below.mono hb5 ?_) | with_reducible refine Below.trans ?_ (Below.mono hb4 ?_) | omega | (simp; omega) | simp))) hfl (funsMono HF.out (by repeat (first | with_reducible exact Below.refl _ _ | with_reducible exact HB3.out | with_reducible refine Below.drew ?_ | with_reducible refine below_drewN ?_ _ | with_reducible refine Below.setCell ?_ ?_ _ | with_reducible refine Below.alloc ?_ ?_ _ | with_reducible exact HB2.out | with_reducible exact HB1.out | with_reducible refine Below.trans ?_ (Below.mono hb3 ?_) | with_reducible refine Below.trans ?_ (Below.mono hb5 ?_) | with_reducible refine Below.trans ?_ (Below.mono hb4 ?_) | omega | (simp; omega) | simp))) (HW.out.below (by repeat (first | with_reducible exact Below.refl _ _ | with_reducible exact HB3.out | with_reducible refine Below.drew ?_ | with_reducible refine below_drewN ?_ _ | with_reducible refine Below.setCell ?_ ?_ _ | with_reducible refine Below.alloc ?_ ?_ _ | with_reducible exact HB2.out | with_reducible exact HB1.out | with_reducible refine Below.trans ?_ (Below.mono hb3 ?_) | with_reducible refine Below.trans ?_ (Below.mono hb5 ?_) | with_reducible refine Below.trans ?_ (Below.mono hb4 ?_) | omega | (simp; omega) | simp))) HH.out).mono ?_
  rintro e w1 ⟨rfl, hb1⟩
  have HB1 : Hid (Below w.heap.size w w1) := Below.trans (by repeat (first | with_reducible exact Below.refl _ _ | with_reducible exact HB3.out | with_reducible refine Below.drew ?_ | with_reducible refine below_drewN ?_ _ | with_reducible refine Below.setCell ?_ ?_ _ | with_reducible refine Below.alloc ?_ ?_ _ | with_reducible exact HB2.out | with_reducible exact HB1.out | with_reducible refine Below.trans ?_ (Below.mono hb3 ?_) | with_reducible refine Below.trans ?_ (Below.mono hb5 ?_) | with_reducible refine Below.trans ?_ (Below.mono hb4 ?_) | omega | (simp; omega) | simp)) (hb1.mono (by simp))
  have hc0 := fun o => (blk (heap_below hb1 (k := w.heap.size) (by simp) (heap_here w _))).1 o
  have hz1 : w.heap.size < w1.heap.size := by have := hb1.size; simp at this; omega
  have hz11 : w.heap.size < w1.heap.size + 1 := by omega
  clear hb1
  go_wp2_with fail
  refine (check_any u _ _ _ _ _ hgl (glosMono HG.out (by repeat (first | with_reducible exact Below.refl _ _ | with_reducible exact HB3.out | with_reducible refine Below.drew ?_ | with_reducible refine below_drewN ?_ _ | with_reducible refine Below.setCell ?_ ?_ _ | with_reducible refine Below.alloc ?_ ?_ _ | with_reducible exact HB2.out | with_reducible exact HB1.out | with_reducible refine Below.trans ?_ (Below.mono hb3 ?_) | with_reducible refine Below.trans ?_ (Below.mono hb5 ?_) | with_reducible refine Below.trans ?_ (Below.mono hb4 ?_) | omega | (simp; omega) | simp))) hfl (funsMono HF.out (by repeat (first | with_reducible exact Below.refl _ _ | with_reducible exact HB3.out | with_reducible refine Below.drew ?_ | with_reducible refine below_drewN ?_ _ | with_reducible refine Below.setCell ?_ ?_ _ | with_reducible refine Below.alloc ?_ ?_ _ | with_reducible exact HB2.out | with_reducible exact HB1.out | with_reducible refine Below.trans ?_ (Below.mono hb3 ?_) | with_reducible refine Below.trans ?_ (Below.mono hb5 ?_) | with_reducible refine Below.trans ?_ (Below.mono hb4 ?_) | omega | (simp; omega) | simp))) (HW.out.below (by repeat (first | with_reducible exact Below.refl _ _ | with_reducible exact HB3.out | with_reducible refine Below.drew ?_ | with_reducible refine below_drewN ?_ _ | with_reducible refine Below.setCell ?_ ?_ _ | with_reducible refine Below.alloc ?_ ?_ _ | with_reducible exact HB2.out | with_reducible exact HB1.out | with_reducible refine Below.trans ?_ (Below.mono hb3 ?_) | with_reducible refine Below.trans ?_ (Below.mono hb5 ?_) | with_reducible refine Below.trans ?_ (Below.mono hb4 ?_) | omega | (simp; omega) | simp)))).mono ?_
  rintro e w3 ⟨rfl, hb3⟩
  have HB3 : Hid (Below w.heap.size w w3) := Below.trans (by repeat (first | with_reducible exact Below.refl _ _ | with_reducible exact HB3.out | with_reducible refine Below.drew ?_ | with_reducible refine below_drewN ?_ _ | with_reducible refine Below.setCell ?_ ?_ _ | with_reducible refine Below.alloc ?_ ?_ _ | with_reducible exact HB2.out | with_reducible exact HB1.out | with_reducible refine Below.trans ?_ (Below.mono hb3 ?_) | with_reducible refine Below.trans ?_ (Below.mono hb5 ?_) | with_reducible refine Below.trans ?_ (Below.mono hb4 ?_) | omega | (simp; omega) | simp)) (hb3.mono (by simp; omega))
  have hV := heap_below hb3 (k := w1.heap.size) (by simp; omega) (heap_step (heap_at (w := w1) (o := .cells #[.slice none 0 0, .slice none 0 0] 25) rfl))
  have hE := heap_below hb3 (k := w1.heap.size + 1) (by simp) (heap_at (w := w1.alloc (.cells #[.slice none 0 0, .slice none 0 0] 25)) (o := .cells #[.int .i64 (chk u).1, .int .i64 (chk u).2] 28) (by simp))
  have v0 : w3.cell? ⟨w1.heap.size, 0, none⟩ = some (.slice none 0 0) := (blk hV).1 0
  have v1 : w3.cell? ⟨w1.heap.size, 1, none⟩ = some (.slice none 0 0) := (blk hV).1 1
  have f0 : w3.cell? ⟨w1.heap.size + 1, 0, none⟩ = some (.int .i64 (chk u).1) := (blk hE).1 0
  have f1 : w3.cell? ⟨w1.heap.size + 1, 1, none⟩ = some (.int .i64 (chk u).2) := (blk hE).1 1
  have z1 := ltHeap hV
  have z2 := ltHeap hE
  have z11 : w1.heap.size < w3.heap.size + 1 := by omega
  have z12 : w1.heap.size + 1 < w3.heap.size + 1 := by omega
  clear hb3 hV hE
  go_wp2_with (go_at_call 15; refine (none_none _).mono ?_; rintro e w4 ⟨rfl, hb4⟩)
  have HB4 : Hid (Below w.heap.size w w4) := Below.trans (by repeat (first | with_reducible exact Below.refl _ _ | with_reducible exact HB3.out | with_reducible refine Below.drew ?_ | with_reducible refine below_drewN ?_ _ | with_reducible refine Below.setCell ?_ ?_ _ | with_reducible refine Below.alloc ?_ ?_ _ | with_reducible exact HB2.out | with_reducible exact HB1.out | with_reducible refine Below.trans ?_ (Below.mono hb3 ?_) | with_reducible refine Below.trans ?_ (Below.mono hb5 ?_) | with_reducible refine Below.trans ?_ (Below.mono hb4 ?_) | omega | (simp; omega) | simp)) (hb4.mono (by have := HB3.out.size; simp; omega))
  clear hb4
  go_wp2_with fail
  go_ret
  exact ⟨rfl, HB4.out⟩

set_option maxRecDepth 100000 in
set_option maxHeartbeats 1000000 in
theorem dsays_ok (u : UniL) (gp fp : Option Addr) (gc fc m : Nat) (w : World) (hG0 : SlF w 3 48 (GloR w) (.slice gp u.globals.length gc) u.globals) (hF0 : SlF w 4 56 (FunR w) (.slice fp u.funcs.length fc) u.funcs) (hw0 : Ways w) (h : (chk u).1 = 0) (hm : mainI u.funcs = some m) :
    Calls Tryd.prog 5 #[.agg #[.slice gp u.globals.length gc, .slice fp u.funcs.length fc]] w fun e w' => e = .returned (.bool true) ∧ Below w.heap.size w w' := by
  obtain ⟨⟨hgl, hG⟩, hfl, hF⟩ := unitAt hG0 hF0
  have HG := hidI hG
  have HF := hidI hF
  have HG0 := hidI hG0
  have HF0 := hidI hF0
  have HW := hidI hw0
  have HH := hidI h
  have HM := hidI hm
  have h0 : (chk u).1 = 0 := h
  clear hG hF hG0 hF0 hw0 h hm
  go_enter Tryd.func5, Tryd.ntmps5
  go_wp2_with fail
  refine (do_ok u gp fp gc fc m _ hgl (HG0.out.mono (by repeat (first | with_reducible exact Below.refl _ _ | with_reducible exact HB3.out | with_reducible refine Below.drew ?_ | with_reducible refine below_drewN ?_ _ | with_reducible refine Below.setCell ?_ ?_ _ | with_reducible refine Below.alloc ?_ ?_ _ | with_reducible exact HB2.out | with_reducible exact HB1.out | with_reducible refine Below.trans ?_ (Below.mono hb3 ?_) | with_reducible refine Below.trans ?_ (Below.mono hb5 ?_) | with_reducible refine Below.trans ?_ (Below.mono hb4 ?_) | omega | (simp; omega) | simp)) (by omega) fun _ _ g => g.below (by repeat (first | with_reducible exact Below.refl _ _ | with_reducible exact HB3.out | with_reducible refine Below.drew ?_ | with_reducible refine below_drewN ?_ _ | with_reducible refine Below.setCell ?_ ?_ _ | with_reducible refine Below.alloc ?_ ?_ _ | with_reducible exact HB2.out | with_reducible exact HB1.out | with_reducible refine Below.trans ?_ (Below.mono hb3 ?_) | with_reducible refine Below.trans ?_ (Below.mono hb5 ?_) | with_reducible refine Below.trans ?_ (Below.mono hb4 ?_) | omega | (simp; omega) | simp))) hfl (HF0.out.mono (by repeat (first | with_reducible exact Below.refl _ _ | with_reducible exact HB3.out | with_reducible refine Below.drew ?_ | with_reducible refine below_drewN ?_ _ | with_reducible refine Below.setCell ?_ ?_ _ | with_reducible refine Below.alloc ?_ ?_ _ | with_reducible exact HB2.out | with_reducible exact HB1.out | with_reducible refine Below.trans ?_ (Below.mono hb3 ?_) | with_reducible refine Below.trans ?_ (Below.mono hb5 ?_) | with_reducible refine Below.trans ?_ (Below.mono hb4 ?_) | omega | (simp; omega) | simp)) (by omega) fun _ _ g => g.below (by repeat (first | with_reducible exact Below.refl _ _ | with_reducible exact HB3.out | with_reducible refine Below.drew ?_ | with_reducible refine below_drewN ?_ _ | with_reducible refine Below.setCell ?_ ?_ _ | with_reducible refine Below.alloc ?_ ?_ _ | with_reducible exact HB2.out | with_reducible exact HB1.out | with_reducible refine Below.trans ?_ (Below.mono hb3 ?_) | with_reducible refine Below.trans ?_ (Below.mono hb5 ?_) | with_reducible refine Below.trans ?_ (Below.mono hb4 ?_) | omega | (simp; omega) | simp))) (HW.out.below (by repeat (first | with_reducible exact Below.refl _ _ | with_reducible exact HB3.out | with_reducible refine Below.drew ?_ | with_reducible refine below_drewN ?_ _ | with_reducible refine Below.setCell ?_ ?_ _ | with_reducible refine Below.alloc ?_ ?_ _ | with_reducible exact HB2.out | with_reducible exact HB1.out | with_reducible refine Below.trans ?_ (Below.mono hb3 ?_) | with_reducible refine Below.trans ?_ (Below.mono hb5 ?_) | with_reducible refine Below.trans ?_ (Below.mono hb4 ?_) | omega | (simp; omega) | simp))) HH.out HM.out).mono ?_
  rintro e w1 ⟨⟨p1, c1, p2, c2, rfl, S, hS, hSl⟩, hb1⟩
  have HB1 : Hid (Below w.heap.size w w1) := Below.trans (by repeat (first | with_reducible exact Below.refl _ _ | with_reducible exact HB3.out | with_reducible refine Below.drew ?_ | with_reducible refine below_drewN ?_ _ | with_reducible refine Below.setCell ?_ ?_ _ | with_reducible refine Below.alloc ?_ ?_ _ | with_reducible exact HB2.out | with_reducible exact HB1.out | with_reducible refine Below.trans ?_ (Below.mono hb3 ?_) | with_reducible refine Below.trans ?_ (Below.mono hb5 ?_) | with_reducible refine Below.trans ?_ (Below.mono hb4 ?_) | omega | (simp; omega) | simp)) (hb1.mono (by simp))
  have hA := heap_below hb1 (k := w.heap.size) (by simp) (heap_here w _)
  have hc0 := fun o => (blk hA).1 o
  have hz1 : w.heap.size < w1.heap.size := ltHeap hA
  have hz11 : w.heap.size < w1.heap.size + 1 := by omega
  have HS := hidI hS
  have HA := hidI hA
  clear hb1 hS hSl hA
  go_wp2_with fail
  refine (check_any u _ _ _ _ _ hgl (glosMono HG.out (by repeat (first | with_reducible exact Below.refl _ _ | with_reducible exact HB3.out | with_reducible refine Below.drew ?_ | with_reducible refine below_drewN ?_ _ | with_reducible refine Below.setCell ?_ ?_ _ | with_reducible refine Below.alloc ?_ ?_ _ | with_reducible exact HB2.out | with_reducible exact HB1.out | with_reducible refine Below.trans ?_ (Below.mono hb3 ?_) | with_reducible refine Below.trans ?_ (Below.mono hb5 ?_) | with_reducible refine Below.trans ?_ (Below.mono hb4 ?_) | omega | (simp; omega) | simp))) hfl (funsMono HF.out (by repeat (first | with_reducible exact Below.refl _ _ | with_reducible exact HB3.out | with_reducible refine Below.drew ?_ | with_reducible refine below_drewN ?_ _ | with_reducible refine Below.setCell ?_ ?_ _ | with_reducible refine Below.alloc ?_ ?_ _ | with_reducible exact HB2.out | with_reducible exact HB1.out | with_reducible refine Below.trans ?_ (Below.mono hb3 ?_) | with_reducible refine Below.trans ?_ (Below.mono hb5 ?_) | with_reducible refine Below.trans ?_ (Below.mono hb4 ?_) | omega | (simp; omega) | simp))) (HW.out.below (by repeat (first | with_reducible exact Below.refl _ _ | with_reducible exact HB3.out | with_reducible refine Below.drew ?_ | with_reducible refine below_drewN ?_ _ | with_reducible refine Below.setCell ?_ ?_ _ | with_reducible refine Below.alloc ?_ ?_ _ | with_reducible exact HB2.out | with_reducible exact HB1.out | with_reducible refine Below.trans ?_ (Below.mono hb3 ?_) | with_reducible refine Below.trans ?_ (Below.mono hb5 ?_) | with_reducible refine Below.trans ?_ (Below.mono hb4 ?_) | omega | (simp; omega) | simp)))).mono ?_
  rintro e w3 ⟨rfl, hb3⟩
  have hB13 : Below w1.heap.size w1 w3 := Below.trans (by repeat (first | with_reducible exact Below.refl _ _ | with_reducible exact HB3.out | with_reducible refine Below.drew ?_ | with_reducible refine below_drewN ?_ _ | with_reducible refine Below.setCell ?_ ?_ _ | with_reducible refine Below.alloc ?_ ?_ _ | with_reducible exact HB2.out | with_reducible exact HB1.out | with_reducible refine Below.trans ?_ (Below.mono hb3 ?_) | with_reducible refine Below.trans ?_ (Below.mono hb5 ?_) | with_reducible refine Below.trans ?_ (Below.mono hb4 ?_) | omega | (simp; omega) | simp)) (hb3.mono (by simp; omega))
  have HB3 : Hid (Below w.heap.size w w3) := HB1.out.trans (hB13.mono (by omega))
  have hV := heap_below hb3 (k := w1.heap.size) (by simp; omega) (heap_step (heap_at (w := w1) (o := .cells #[.slice p1 u.globals.length c1, .slice p2 (doneU (tableU u.funcs m) u).funcs.length c2] 25) rfl))
  have hE := heap_below hb3 (k := w1.heap.size + 1) (by simp) (heap_at (w := w1.alloc (.cells #[.slice p1 u.globals.length c1, .slice p2 (doneU (tableU u.funcs m) u).funcs.length c2] 25)) (o := .cells #[.int .i64 0, .int .i64 0] 28) (by simp))
  have HV := hidI hV
  have HE := hidI hE
  have HA3 := hidI (heap_below hB13 (k := w.heap.size) hz1 HA.out)
  have HB13 := hidI hB13
  have z1 := ltHeap hV
  clear hb3 hV hE hB13
  rw [h0]
  go_wp2_with fail
  obtain ⟨W, hW⟩ : ∃ W, W = w3.alloc (.cells #[.int .i64 0, .int .i64 (chk u).2] 28) := ⟨_, rfl⟩
  rw [← hW]
  have hb3W : Below w3.heap.size w3 W := by rw [hW]; exact (Below.refl _ _).alloc (Nat.le_refl _) _
  clear hW
  have hBW : Below w.heap.size w W := HB3.out.trans (hb3W.mono HB3.out.size)
  have hB1W : Below w1.heap.size w1 W := HB13.out.trans (hb3W.mono HB13.out.size)
  have hVW := (hb3W.block w1.heap.size (ltHeap HV.out)).trans HV.out
  have hEW := (hb3W.block (w1.heap.size + 1) (ltHeap HE.out)).trans HE.out
  have hAW := (hb3W.block w.heap.size (ltHeap HA3.out)).trans HA3.out
  have hAll : ∀ w', Below W.heap.size W w' → w'.cell? ⟨w.heap.size, 0, none⟩ = some (.slice gp u.globals.length gc) ∧ w'.cell? ⟨w.heap.size, 1, none⟩ = some (.slice fp u.funcs.length fc) ∧ w'.cell? ⟨w1.heap.size, 0, none⟩ = some (.slice p1 u.globals.length c1) ∧ w'.cell? ⟨w1.heap.size, 1, none⟩ = some (.slice p2 (doneU (tableU u.funcs m) u).funcs.length c2) ∧ w'.cell? ⟨w1.heap.size + 1, 0, none⟩ = some (.int .i64 0) ∧ w.heap.size < w'.heap.size ∧ w1.heap.size < w'.heap.size ∧ w1.heap.size + 1 < w'.heap.size := fun w' h => by
    have h1 := (h.block w.heap.size (ltHeap hAW)).trans hAW
    have h2 := (h.block w1.heap.size (ltHeap hVW)).trans hVW
    have h3 := (h.block (w1.heap.size + 1) (ltHeap hEW)).trans hEW
    exact ⟨(blk h1).1 0, (blk h1).1 1, (blk h2).1 0, (blk h2).1 1, (blk h3).1 0, ltHeap h1, ltHeap h2, ltHeap h3⟩
  have HAll := hidI hAll
  have HBW := hidI hBW
  have HB1W := hidI hB1W
  clear hAll hBW hB1W hVW hEW hAW hb3W
  refine wp_region_calm (S := fun w' => Below W.heap.size W w') (by kernel_rfl) 9 ?_
  refine takeZ 0 23 (.pointer (some ⟨w1.heap.size + 1, 0, none⟩)) rfl rfl (by kernel_rfl) (by kernel_rfl) (by kernel_rfl) (by kernel_rfl) (fun _ _ _ h => h) (Or.inl ⟨by rfl, fun w' h => ?_⟩) (Below.refl _ W).drew ?_
  · obtain ⟨t1, t2, t3, t4, t5, t6, t7, t8⟩ := HAll.out w' h
    go_simp
  refine takeZ 1 24 (.int .i64 0) rfl rfl (by kernel_rfl) (by kernel_rfl) (by kernel_rfl) (by kernel_rfl) (fun _ _ _ h => h) (Or.inl ⟨by rfl, fun w' h => ?_⟩) (Below.refl _ W).drew ?_
  · obtain ⟨t1, t2, t3, t4, t5, t6, t7, t8⟩ := HAll.out w' h
    go_simp
  refine takeZ 2 25 (.bool true) rfl rfl (by kernel_rfl) (by kernel_rfl) (by kernel_rfl) (by kernel_rfl) (fun _ _ _ h => h) (Or.inl ⟨by rfl, fun w' h => ?_⟩) (Below.refl _ W).drew ?_
  · obtain ⟨t1, t2, t3, t4, t5, t6, t7, t8⟩ := HAll.out w' h
    go_simp
  refine takeZ 3 26 (.bool true) rfl rfl (by kernel_rfl) (by kernel_rfl) (by kernel_rfl) (by kernel_rfl) (fun _ _ _ h => h) (Or.inl ⟨by rfl, fun w' h => ?_⟩) (Below.refl _ W).drew ?_
  · obtain ⟨t1, t2, t3, t4, t5, t6, t7, t8⟩ := HAll.out w' h
    go_simp
  refine takeZ 4 27 (.agg #[.slice p1 u.globals.length c1, .slice p2 (doneU (tableU u.funcs m) u).funcs.length c2]) rfl rfl (by kernel_rfl) (by kernel_rfl) (by kernel_rfl) (by kernel_rfl) (fun _ _ _ h => h) (Or.inl ⟨by rfl, fun w' h => ?_⟩) (Below.refl _ W).drew ?_
  · obtain ⟨t1, t2, t3, t4, t5, t6, t7, t8⟩ := HAll.out w' h
    go_simp
  refine takeZ 5 28 (.agg #[.slice gp u.globals.length gc, .slice fp u.funcs.length fc]) rfl rfl (by kernel_rfl) (by kernel_rfl) (by kernel_rfl) (by kernel_rfl) (fun _ _ _ h => h) (Or.inl ⟨by rfl, fun w' h => ?_⟩) (Below.refl _ W).drew ?_
  · obtain ⟨t1, t2, t3, t4, t5, t6, t7, t8⟩ := HAll.out w' h
    go_simp
  have hwD : Below W.heap.size W W.drew := (Below.refl _ W).drew
  refine wpAnyZ_callG (i := 6) (by kernel_rfl) rfl (by kernel_rfl) (by go_simp) (done_any u gp fp gc fc m W.drew (chk_ok HH.out).2 (HG0.out.mono (HBW.out.trans (hwD.mono HBW.out.size)) (by omega) fun _ _ g => g.below (HBW.out.trans (hwD.mono HBW.out.size))) (HF0.out.mono (HBW.out.trans (hwD.mono HBW.out.size)) (by omega) fun _ _ g => g.below (HBW.out.trans (hwD.mono HBW.out.size))) HM.out) ?_
  rintro e w4 ⟨⟨r1, d1, r2, d2, rfl, S', hS', hSl'⟩, hb4⟩
  have hB4 : Below W.heap.size W w4 := hwD.trans hb4
  refine ⟨_, rfl, fun _ => hB4, ?_⟩
  have hB14 : Below w1.heap.size w1 w4 := HB1W.out.trans (hB4.mono HB1W.out.size)
  obtain ⟨_, _, e1, a1, a2⟩ := HS.out.read
  simp only [List.cons.injEq, and_true] at e1
  obtain ⟨rfl, rfl⟩ := e1
  obtain ⟨_, _, e2, b1, b2⟩ := hS'.read
  simp only [List.cons.injEq, and_true] at e2
  obtain ⟨rfl, rfl⟩ := e2
  have hu : Calls Tryd.prog 16 #[.agg #[.slice p1 u.globals.length c1, .slice p2 (doneU (tableU u.funcs m) u).funcs.length c2], .agg #[.slice r1 u.globals.length d1, .slice r2 (doneU (tableU u.funcs m) u).funcs.length d2]] w4 fun e w' => e = .returned (.bool true) ∧ Below w4.heap.size w4 w' := units_same (doneU (tableU u.funcs m) u) p1 p2 r1 r2 c1 c2 d1 d2 w4 (a1.mono hB14 (by omega) fun _ _ g => g.below hB14) (a2.mono hB14 (by omega) fun _ _ g => g.below hB14) b1 b2
  have HU := hidI hu
  have HB4 := hidI hB4
  clear hu a1 a2 b1 b2 hS' hSl' hB14 hb4
  refine wpAnyZ_callG (i := 7) (by kernel_rfl) rfl (by kernel_rfl) (by go_simp) HU.out ?_
  rintro e w5 ⟨rfl, hb5⟩
  have hB5 : Below W.heap.size W w5 := hB4.trans (hb5.mono hB4.size)
  refine ⟨_, rfl, fun _ => hB5, ?_⟩
  refine stepZ_1 (i := 8) (by kernel_rfl) (stepZ_to 31 (.bool true) w5 rfl rfl rfl (by go_simp) hB5 ?_)
  refine stepZ_1 (i := 9) (by kernel_rfl) (stepZ_to 2 (.bool true) w5 rfl rfl rfl (by go_simp) hB5 (wpAnyZ_done (by kernel_rfl) ?_ _))
  simp only [calm]
  have HB5 := hidI (HBW.out.trans (hB5.mono HBW.out.size))
  clear hB4 hB5 hb5
  go_wp2_with fail
  refine bodyPost_ret (v := .bool true) ?_ rfl ⟨rfl, HB5.out⟩
  simp [results, Tryd.results5, go_sem]
theorem dsays_all (u : UniL) (gp fp : Option Addr) (gc fc : Nat) (w : World) (hG0 : SlF w 3 48 (GloR w) (.slice gp u.globals.length gc) u.globals) (hF0 : SlF w 4 56 (FunR w) (.slice fp u.funcs.length fc) u.funcs) (hw0 : Ways w) :
    Calls Tryd.prog 5 #[.agg #[.slice gp u.globals.length gc, .slice fp u.funcs.length fc]] w fun e w' => e = .returned (.bool true) ∧ Below w.heap.size w w' := by
  by_cases h : (chk u).1 = 0
  · obtain ⟨m, hm, _⟩ := (chk_ok h).2.main
    exact dsays_ok u gp fp gc fc m w hG0 hF0 hw0 h hm
  · exact dsays_bad u gp fp gc fc w hG0 hF0 hw0 h
end Go.Proofs.YtdjamkinijhjoaaDoor
