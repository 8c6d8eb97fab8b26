/-
  The law CallsGraphSays, walked out of the contracts.
-/
import Derived.Test.YteckkdmgkikeaaaDoorCalR
import Derived.BigQuiet
import Derived.Deep.QuietTactic
import Derived.Deep.RegionHeld3
import Derived.WalkKit
import Derived.WalkSpells
import Derived.WalkLawsBesides
namespace Go.Proofs.YteckkdmgkikeaaaDoor
open Go.RowKit

set_option maxRecDepth 100000 in
set_option maxHeartbeats 1000000 in
theorem gsays_bad (u : UniL) (gp fp : Option Addr) (gc fc : Nat) (w : World) (hgl : u.globals.length * 48 ≤ 140737488351232) (hG : SliceAt w 3 (GloR w) gp u.globals) (hfl : u.funcs.length * 56 ≤ 140737488351232) (hF : SliceAt w 4 (FunR w) fp u.funcs) (hw0 : Ways w) (h : (chk u).1 ≠ 0) :
    Calls Tryd.prog 5 #[.agg #[.slice gp u.globals.length gc, .slice fp u.funcs.length fc]] w fun e w' => e = .returned (.bool true) ∧ Below w.heap.size w w' := by
  have HG := hidI hG
  have HF := hidI hF
  have HW := hidI hw0
  have HH := hidI h
  have hne : ((chk u).1 != 0) = true := by simp [h]
  have hq : ∀ w, (binOp .eql 27 (.agg #[.int .i64 (chk u).1, .int .i64 (chk u).2]) (.agg #[.int .i64 (chk u).1, .int .i64 (chk u).2])).run Tryd.prog w = .ok (.bool true) w := fun w => by rw [run_eqFault]; simp
  clear hG hF hw0 h
  go_enter Tryd.func5, Tryd.ntmps5
  go_wp2_with fail
  refine (gr_bad u _ _ _ _ _ hgl (glosMono HG.out (by repeat (first | with_reducible exact Below.refl _ _ | with_reducible exact HB3.out | with_reducible refine Below.drew ?_ | with_reducible refine below_drewN ?_ _ | with_reducible refine Below.setCell ?_ ?_ _ | with_reducible refine Below.alloc ?_ ?_ _ | with_reducible exact HB2.out | with_reducible exact HB1.out | with_reducible refine Below.trans ?_ (Below.mono hb3 ?_) | with_reducible refine Below.trans ?_ (Below.mono hb5 ?_) | with_reducible refine Below.trans ?_ (Below.mono hb4 ?_) | omega | (simp; omega) | simp))) hfl (funsMono HF.out (by repeat (first | with_reducible exact Below.refl _ _ | with_reducible exact HB3.out | with_reducible refine Below.drew ?_ | with_reducible refine below_drewN ?_ _ | with_reducible refine Below.setCell ?_ ?_ _ | with_reducible refine Below.alloc ?_ ?_ _ | with_reducible exact HB2.out | with_reducible exact HB1.out | with_reducible refine Below.trans ?_ (Below.mono hb3 ?_) | with_reducible refine Below.trans ?_ (Below.mono hb5 ?_) | with_reducible refine Below.trans ?_ (Below.mono hb4 ?_) | omega | (simp; omega) | simp))) (HW.out.below (by repeat (first | with_reducible exact Below.refl _ _ | with_reducible exact HB3.out | with_reducible refine Below.drew ?_ | with_reducible refine below_drewN ?_ _ | with_reducible refine Below.setCell ?_ ?_ _ | with_reducible refine Below.alloc ?_ ?_ _ | with_reducible exact HB2.out | with_reducible exact HB1.out | with_reducible refine Below.trans ?_ (Below.mono hb3 ?_) | with_reducible refine Below.trans ?_ (Below.mono hb5 ?_) | with_reducible refine Below.trans ?_ (Below.mono hb4 ?_) | omega | (simp; omega) | simp))) HH.out).mono ?_
  rintro e w1 ⟨rfl, hb1⟩
  have HB1 : Hid (Below w.heap.size w w1) := Below.trans (by repeat (first | with_reducible exact Below.refl _ _ | with_reducible exact HB3.out | with_reducible refine Below.drew ?_ | with_reducible refine below_drewN ?_ _ | with_reducible refine Below.setCell ?_ ?_ _ | with_reducible refine Below.alloc ?_ ?_ _ | with_reducible exact HB2.out | with_reducible exact HB1.out | with_reducible refine Below.trans ?_ (Below.mono hb3 ?_) | with_reducible refine Below.trans ?_ (Below.mono hb5 ?_) | with_reducible refine Below.trans ?_ (Below.mono hb4 ?_) | omega | (simp; omega) | simp)) (hb1.mono (by simp))
  have hc0 := fun o => (blk (heap_below hb1 (k := w.heap.size) (by simp) (heap_here w _))).1 o
  have hz1 : w.heap.size < w1.heap.size := by have := hb1.size; simp at this; omega
  clear hb1
  go_wp2_with fail
  refine (rc_bad u _ _ _ _ _ hgl (glosMono HG.out (by repeat (first | with_reducible exact Below.refl _ _ | with_reducible exact HB3.out | with_reducible refine Below.drew ?_ | with_reducible refine below_drewN ?_ _ | with_reducible refine Below.setCell ?_ ?_ _ | with_reducible refine Below.alloc ?_ ?_ _ | with_reducible exact HB2.out | with_reducible exact HB1.out | with_reducible refine Below.trans ?_ (Below.mono hb3 ?_) | with_reducible refine Below.trans ?_ (Below.mono hb5 ?_) | with_reducible refine Below.trans ?_ (Below.mono hb4 ?_) | omega | (simp; omega) | simp))) hfl (funsMono HF.out (by repeat (first | with_reducible exact Below.refl _ _ | with_reducible exact HB3.out | with_reducible refine Below.drew ?_ | with_reducible refine below_drewN ?_ _ | with_reducible refine Below.setCell ?_ ?_ _ | with_reducible refine Below.alloc ?_ ?_ _ | with_reducible exact HB2.out | with_reducible exact HB1.out | with_reducible refine Below.trans ?_ (Below.mono hb3 ?_) | with_reducible refine Below.trans ?_ (Below.mono hb5 ?_) | with_reducible refine Below.trans ?_ (Below.mono hb4 ?_) | omega | (simp; omega) | simp))) (HW.out.below (by repeat (first | with_reducible exact Below.refl _ _ | with_reducible exact HB3.out | with_reducible refine Below.drew ?_ | with_reducible refine below_drewN ?_ _ | with_reducible refine Below.setCell ?_ ?_ _ | with_reducible refine Below.alloc ?_ ?_ _ | with_reducible exact HB2.out | with_reducible exact HB1.out | with_reducible refine Below.trans ?_ (Below.mono hb3 ?_) | with_reducible refine Below.trans ?_ (Below.mono hb5 ?_) | with_reducible refine Below.trans ?_ (Below.mono hb4 ?_) | omega | (simp; omega) | simp))) HH.out).mono ?_
  rintro e w2 ⟨rfl, hb2⟩
  have HB2 : Hid (Below w.heap.size w w2) := Below.trans (by repeat (first | with_reducible exact Below.refl _ _ | with_reducible exact HB3.out | with_reducible refine Below.drew ?_ | with_reducible refine below_drewN ?_ _ | with_reducible refine Below.setCell ?_ ?_ _ | with_reducible refine Below.alloc ?_ ?_ _ | with_reducible exact HB2.out | with_reducible exact HB1.out | with_reducible refine Below.trans ?_ (Below.mono hb3 ?_) | with_reducible refine Below.trans ?_ (Below.mono hb5 ?_) | with_reducible refine Below.trans ?_ (Below.mono hb4 ?_) | omega | (simp; omega) | simp)) (hb2.mono (by simp; omega))
  have hz2 : w.heap.size < w2.heap.size := by have := hb2.size; simp at this; omega
  have hz3 : w1.heap.size < w2.heap.size := by have := hb2.size; simp at this; omega
  obtain ⟨hcc2, hcf2, _⟩ := bcell hb2
  clear hb2
  go_wp2_with fail
  refine (check_any u _ _ _ _ _ hgl (glosMono HG.out (by repeat (first | with_reducible exact Below.refl _ _ | with_reducible exact HB3.out | with_reducible refine Below.drew ?_ | with_reducible refine below_drewN ?_ _ | with_reducible refine Below.setCell ?_ ?_ _ | with_reducible refine Below.alloc ?_ ?_ _ | with_reducible exact HB2.out | with_reducible exact HB1.out | with_reducible refine Below.trans ?_ (Below.mono hb3 ?_) | with_reducible refine Below.trans ?_ (Below.mono hb5 ?_) | with_reducible refine Below.trans ?_ (Below.mono hb4 ?_) | omega | (simp; omega) | simp))) hfl (funsMono HF.out (by repeat (first | with_reducible exact Below.refl _ _ | with_reducible exact HB3.out | with_reducible refine Below.drew ?_ | with_reducible refine below_drewN ?_ _ | with_reducible refine Below.setCell ?_ ?_ _ | with_reducible refine Below.alloc ?_ ?_ _ | with_reducible exact HB2.out | with_reducible exact HB1.out | with_reducible refine Below.trans ?_ (Below.mono hb3 ?_) | with_reducible refine Below.trans ?_ (Below.mono hb5 ?_) | with_reducible refine Below.trans ?_ (Below.mono hb4 ?_) | omega | (simp; omega) | simp))) (HW.out.below (by repeat (first | with_reducible exact Below.refl _ _ | with_reducible exact HB3.out | with_reducible refine Below.drew ?_ | with_reducible refine below_drewN ?_ _ | with_reducible refine Below.setCell ?_ ?_ _ | with_reducible refine Below.alloc ?_ ?_ _ | with_reducible exact HB2.out | with_reducible exact HB1.out | with_reducible refine Below.trans ?_ (Below.mono hb3 ?_) | with_reducible refine Below.trans ?_ (Below.mono hb5 ?_) | with_reducible refine Below.trans ?_ (Below.mono hb4 ?_) | omega | (simp; omega) | simp)))).mono ?_
  rintro e w3 ⟨rfl, hb3⟩
  have HB3 : Hid (Below w.heap.size w w3) := Below.trans (by repeat (first | with_reducible exact Below.refl _ _ | with_reducible exact HB3.out | with_reducible refine Below.drew ?_ | with_reducible refine below_drewN ?_ _ | with_reducible refine Below.setCell ?_ ?_ _ | with_reducible refine Below.alloc ?_ ?_ _ | with_reducible exact HB2.out | with_reducible exact HB1.out | with_reducible refine Below.trans ?_ (Below.mono hb3 ?_) | with_reducible refine Below.trans ?_ (Below.mono hb5 ?_) | with_reducible refine Below.trans ?_ (Below.mono hb4 ?_) | omega | (simp; omega) | simp)) (hb3.mono (by simp; omega))
  have hz4 : w.heap.size < w3.heap.size := by have := hb3.size; simp at this; omega
  have hz5 : w1.heap.size < w3.heap.size := by have := hb3.size; simp at this; omega
  have hz6 : w2.heap.size < w3.heap.size := by have := hb3.size; simp at this; omega
  obtain ⟨hcc3, hcf3, _⟩ := bcell hb3
  clear hb3
  go_wp2
  go_ret
  refine ⟨rfl, by repeat (first | with_reducible exact Below.refl _ _ | with_reducible exact HB3.out | with_reducible refine Below.drew ?_ | with_reducible refine below_drewN ?_ _ | with_reducible refine Below.setCell ?_ ?_ _ | with_reducible refine Below.alloc ?_ ?_ _ | with_reducible exact HB2.out | with_reducible exact HB1.out | with_reducible refine Below.trans ?_ (Below.mono hb3 ?_) | with_reducible refine Below.trans ?_ (Below.mono hb5 ?_) | with_reducible refine Below.trans ?_ (Below.mono hb4 ?_) | omega | (simp; omega) | simp)⟩

theorem rows_same (xs : List (List Int)) (p q : Option Addr) (n c d : Nat) (w : World) (hn : xs.length = n) (hx : n ≤ 140737488355328) (hX : SliceAt w 1 (IntsR w) p xs) (hY : SliceAt w 1 (IntsR w) q xs) :
    Calls Tryd.prog 24 #[.slice p n c, .slice q n d] w fun e w' => e = .returned (.bool true) ∧ Below w.heap.size w w' := by
  subst hn
  refine (rows_any xs xs p q c d w hx hx hX hY).mono fun e w' h => ⟨?_, h.2⟩
  rw [h.1]; simp
theorem bools_same (xs : List Bool) (p q : Option Addr) (n c d : Nat) (w : World) (hn : xs.length = n) (hx : n ≤ 140737488355328) (hX : SliceAt w 1 BoolR p xs) (hY : SliceAt w 1 BoolR q xs) :
    Calls Tryd.prog 26 #[.slice p n c, .slice q n d] w fun e w' => e = .returned (.bool true) ∧ Below w.heap.size w w' := by
  subst hn
  refine (bools_any xs xs p q c d w hx hx hX hY).mono fun e w' h => ⟨?_, h.2⟩
  rw [h.1]; simp
theorem mainOf_at (xs : List FunL) (gp fp : Option Addr) (gl gc fc m : Nat) (w : World) (hl : xs.length ≤ 140737488355328) (hF : SliceAt w 4 (FunR w) fp xs) (hm : mainI xs = some m) :
    Calls Tryd.prog 28 #[.agg #[.slice gp gl gc, .slice fp xs.length fc]] w fun e w' => e = .returned (.int .i64 m) ∧ Below w.heap.size w w' := by
  refine (mainOf_any xs gp fp gl gc fc w hl hF).mono fun e w' h => ⟨?_, h.2⟩
  rw [h.1, hm]; rfl

set_option maxRecDepth 100000 in
set_option maxHeartbeats 1000000 in
theorem gsays_ok (u : UniL) (gp fp : Option Addr) (gc fc m : Nat) (w : World) (hgl : u.globals.length * 48 ≤ 140737488351232) (hG : SliceAt w 3 (GloR w) gp u.globals) (hfl : u.funcs.length * 56 ≤ 140737488351232) (hF : SliceAt w 4 (FunR w) fp u.funcs) (hw0 : Ways w) (h : (chk u).1 = 0) (hm : mainI u.funcs = some m) :
    Calls Tryd.prog 5 #[.agg #[.slice gp u.globals.length gc, .slice fp u.funcs.length fc]] w fun e w' => e = .returned (.bool true) ∧ Below w.heap.size w w' := by
  have HG := hidI hG
  have HF := hidI hF
  have HW := hidI hw0
  have HH := hidI h
  have HC := hidI (chk_ok h).1
  have hnf := (chk_ok h).2.nf
  have hml := mainI_lt hm
  clear hG hF hw0 h
  go_enter Tryd.func5, Tryd.ntmps5
  go_wp2_with fail
  refine (gr_ok u _ _ _ _ _ hgl (glosMono HG.out (by repeat (first | with_reducible exact Below.refl _ _ | with_reducible exact HB3.out | with_reducible refine Below.drew ?_ | with_reducible refine below_drewN ?_ _ | with_reducible refine Below.setCell ?_ ?_ _ | with_reducible refine Below.alloc ?_ ?_ _ | with_reducible exact HB2.out | with_reducible exact HB1.out | with_reducible refine Below.trans ?_ (Below.mono hb3 ?_) | with_reducible refine Below.trans ?_ (Below.mono hb5 ?_) | with_reducible refine Below.trans ?_ (Below.mono hb4 ?_) | omega | (simp; omega) | simp))) hfl (funsMono HF.out (by repeat (first | with_reducible exact Below.refl _ _ | with_reducible exact HB3.out | with_reducible refine Below.drew ?_ | with_reducible refine below_drewN ?_ _ | with_reducible refine Below.setCell ?_ ?_ _ | with_reducible refine Below.alloc ?_ ?_ _ | with_reducible exact HB2.out | with_reducible exact HB1.out | with_reducible refine Below.trans ?_ (Below.mono hb3 ?_) | with_reducible refine Below.trans ?_ (Below.mono hb5 ?_) | with_reducible refine Below.trans ?_ (Below.mono hb4 ?_) | omega | (simp; omega) | simp))) (HW.out.below (by repeat (first | with_reducible exact Below.refl _ _ | with_reducible exact HB3.out | with_reducible refine Below.drew ?_ | with_reducible refine below_drewN ?_ _ | with_reducible refine Below.setCell ?_ ?_ _ | with_reducible refine Below.alloc ?_ ?_ _ | with_reducible exact HB2.out | with_reducible exact HB1.out | with_reducible refine Below.trans ?_ (Below.mono hb3 ?_) | with_reducible refine Below.trans ?_ (Below.mono hb5 ?_) | with_reducible refine Below.trans ?_ (Below.mono hb4 ?_) | omega | (simp; omega) | simp))) HH.out).mono ?_
  rintro e w1 ⟨T, rfl, hS1, hb1⟩
  have HS1 := hidI hS1
  have HB1 : Hid (Below w.heap.size w w1) := Below.trans (by repeat (first | with_reducible exact Below.refl _ _ | with_reducible exact HB3.out | with_reducible refine Below.drew ?_ | with_reducible refine below_drewN ?_ _ | with_reducible refine Below.setCell ?_ ?_ _ | with_reducible refine Below.alloc ?_ ?_ _ | with_reducible exact HB2.out | with_reducible exact HB1.out | with_reducible refine Below.trans ?_ (Below.mono hb3 ?_) | with_reducible refine Below.trans ?_ (Below.mono hb5 ?_) | with_reducible refine Below.trans ?_ (Below.mono hb4 ?_) | omega | (simp; omega) | simp)) (hb1.mono (by simp))
  have hc0 := fun o => (blk (heap_below hb1 (k := w.heap.size) (by simp) (heap_here w _))).1 o
  have hz1 : w.heap.size < w1.heap.size := by have := hb1.size; simp at this; omega
  clear hb1 hS1
  go_wp2_with fail
  refine (rc_ok u _ _ _ _ m _ hgl (glosMono HG.out (by repeat (first | with_reducible exact Below.refl _ _ | with_reducible exact HB3.out | with_reducible refine Below.drew ?_ | with_reducible refine below_drewN ?_ _ | with_reducible refine Below.setCell ?_ ?_ _ | with_reducible refine Below.alloc ?_ ?_ _ | with_reducible exact HB2.out | with_reducible exact HB1.out | with_reducible refine Below.trans ?_ (Below.mono hb3 ?_) | with_reducible refine Below.trans ?_ (Below.mono hb5 ?_) | with_reducible refine Below.trans ?_ (Below.mono hb4 ?_) | omega | (simp; omega) | simp))) hfl (funsMono HF.out (by repeat (first | with_reducible exact Below.refl _ _ | with_reducible exact HB3.out | with_reducible refine Below.drew ?_ | with_reducible refine below_drewN ?_ _ | with_reducible refine Below.setCell ?_ ?_ _ | with_reducible refine Below.alloc ?_ ?_ _ | with_reducible exact HB2.out | with_reducible exact HB1.out | with_reducible refine Below.trans ?_ (Below.mono hb3 ?_) | with_reducible refine Below.trans ?_ (Below.mono hb5 ?_) | with_reducible refine Below.trans ?_ (Below.mono hb4 ?_) | omega | (simp; omega) | simp))) (HW.out.below (by repeat (first | with_reducible exact Below.refl _ _ | with_reducible exact HB3.out | with_reducible refine Below.drew ?_ | with_reducible refine below_drewN ?_ _ | with_reducible refine Below.setCell ?_ ?_ _ | with_reducible refine Below.alloc ?_ ?_ _ | with_reducible exact HB2.out | with_reducible exact HB1.out | with_reducible refine Below.trans ?_ (Below.mono hb3 ?_) | with_reducible refine Below.trans ?_ (Below.mono hb5 ?_) | with_reducible refine Below.trans ?_ (Below.mono hb4 ?_) | omega | (simp; omega) | simp))) HH.out hm).mono ?_
  rintro e w2 ⟨T2, rfl, hS2, hb2⟩
  have HS2 := hidI hS2
  have HB2 : Hid (Below w.heap.size w w2) := Below.trans (by repeat (first | with_reducible exact Below.refl _ _ | with_reducible exact HB3.out | with_reducible refine Below.drew ?_ | with_reducible refine below_drewN ?_ _ | with_reducible refine Below.setCell ?_ ?_ _ | with_reducible refine Below.alloc ?_ ?_ _ | with_reducible exact HB2.out | with_reducible exact HB1.out | with_reducible refine Below.trans ?_ (Below.mono hb3 ?_) | with_reducible refine Below.trans ?_ (Below.mono hb5 ?_) | with_reducible refine Below.trans ?_ (Below.mono hb4 ?_) | omega | (simp; omega) | simp)) (hb2.mono (by simp; omega))
  have H12 : Hid (Below w1.heap.size w1 w2) := ((Below.refl _ _).alloc (Nat.le_refl _) _).trans (hb2.mono (by simp))
  have hz2 : w.heap.size < w2.heap.size := by have := hb2.size; simp at this; omega
  have hz3 : w1.heap.size < w2.heap.size := by have := hb2.size; simp at this; omega
  obtain ⟨hcc2, hcf2, _⟩ := bcell hb2
  clear hb2 hS2
  go_wp2_with fail
  refine (check_any u _ _ _ _ _ hgl (glosMono HG.out (by repeat (first | with_reducible exact Below.refl _ _ | with_reducible exact HB3.out | with_reducible refine Below.drew ?_ | with_reducible refine below_drewN ?_ _ | with_reducible refine Below.setCell ?_ ?_ _ | with_reducible refine Below.alloc ?_ ?_ _ | with_reducible exact HB2.out | with_reducible exact HB1.out | with_reducible refine Below.trans ?_ (Below.mono hb3 ?_) | with_reducible refine Below.trans ?_ (Below.mono hb5 ?_) | with_reducible refine Below.trans ?_ (Below.mono hb4 ?_) | omega | (simp; omega) | simp))) hfl (funsMono HF.out (by repeat (first | with_reducible exact Below.refl _ _ | with_reducible exact HB3.out | with_reducible refine Below.drew ?_ | with_reducible refine below_drewN ?_ _ | with_reducible refine Below.setCell ?_ ?_ _ | with_reducible refine Below.alloc ?_ ?_ _ | with_reducible exact HB2.out | with_reducible exact HB1.out | with_reducible refine Below.trans ?_ (Below.mono hb3 ?_) | with_reducible refine Below.trans ?_ (Below.mono hb5 ?_) | with_reducible refine Below.trans ?_ (Below.mono hb4 ?_) | omega | (simp; omega) | simp))) (HW.out.below (by repeat (first | with_reducible exact Below.refl _ _ | with_reducible exact HB3.out | with_reducible refine Below.drew ?_ | with_reducible refine below_drewN ?_ _ | with_reducible refine Below.setCell ?_ ?_ _ | with_reducible refine Below.alloc ?_ ?_ _ | with_reducible exact HB2.out | with_reducible exact HB1.out | with_reducible refine Below.trans ?_ (Below.mono hb3 ?_) | with_reducible refine Below.trans ?_ (Below.mono hb5 ?_) | with_reducible refine Below.trans ?_ (Below.mono hb4 ?_) | omega | (simp; omega) | simp)))).mono ?_
  rintro e w3 ⟨rfl, hb3⟩
  rw [HC.out]
  have HB3 : Hid (Below w.heap.size w w3) := Below.trans (by repeat (first | with_reducible exact Below.refl _ _ | with_reducible exact HB3.out | with_reducible refine Below.drew ?_ | with_reducible refine below_drewN ?_ _ | with_reducible refine Below.setCell ?_ ?_ _ | with_reducible refine Below.alloc ?_ ?_ _ | with_reducible exact HB2.out | with_reducible exact HB1.out | with_reducible refine Below.trans ?_ (Below.mono hb3 ?_) | with_reducible refine Below.trans ?_ (Below.mono hb5 ?_) | with_reducible refine Below.trans ?_ (Below.mono hb4 ?_) | omega | (simp; omega) | simp)) (hb3.mono (by simp; omega))
  have H23 : Hid (Below w2.heap.size w2 w3) := ((Below.refl _ _).alloc (Nat.le_refl _) _).trans (hb3.mono (by simp))
  have hz4 : w.heap.size < w3.heap.size := by have := hb3.size; simp at this; omega
  have hz5 : w1.heap.size < w3.heap.size := by have := hb3.size; simp at this; omega
  have hz6 : w2.heap.size < w3.heap.size := by have := hb3.size; simp at this; omega
  obtain ⟨hcc3, hcf3, _⟩ := bcell hb3
  clear hb3
  go_wp2_with fail
  obtain ⟨W, hW⟩ : ∃ W, w3.alloc (.cells #[.int .i64 0, .int .i64 0] 27) = W := ⟨_, rfl⟩
  rw [hW]
  have b3 : Below w3.heap.size w3 W := by rw [← hW]; exact (Below.refl _ _).alloc (Nat.le_refl _) _
  have HBW : Hid (Below w.heap.size w W) := HB3.out.trans (b3.mono (by omega))
  have H2W : Hid (Below w2.heap.size w2 W) := H23.out.trans (b3.mono (by omega))
  have H1W : Hid (Below w1.heap.size w1 W) := H12.out.trans (H2W.out.mono (by omega))
  have c0 : ∀ o, W.cell? ⟨w.heap.size, o, none⟩ = #[.slice gp u.globals.length gc, .slice fp u.funcs.length fc][o]? := fun o => (H1W.out.cell (p := ⟨w.heap.size, o, none⟩) hz1).trans (hc0 o)
  have z0 : w.heap.size < W.heap.size := by have := b3.size; omega
  have z1 : w1.heap.size < W.heap.size := by have := b3.size; omega
  have z2 : w2.heap.size < W.heap.size := by have := b3.size; omega
  have f1 : W.cell? ⟨w1.heap.size, 0, none⟩ = some (.int .i64 0) := (b3.cell (p := ⟨w1.heap.size, 0, none⟩) hz5).trans ((hcc3 w1.heap.size 0 (by simp; omega)).trans (by go_simp))
  have f2 : W.cell? ⟨w2.heap.size, 0, none⟩ = some (.int .i64 0) := (b3.cell (p := ⟨w2.heap.size, 0, none⟩) hz6).trans ((hcc3 w2.heap.size 0 (by simp)).trans (by go_simp))
  have hS1 := rows_below HS1.out H1W.out
  have hS2 := bools_below HS2.out H2W.out
  have hFW := funsMono HF.out HBW.out
  have KS1 := hidI hS1
  have KS2 := hidI hS2
  have KF := hidI hFW
  have KW := hidI HBW.out
  have hAll : ∀ w', Below W.heap.size W w' → Below W.heap.size W w' ∧ w'.cell? ⟨w1.heap.size, 0, none⟩ = some (.int .i64 0) ∧ w'.cell? ⟨w2.heap.size, 0, none⟩ = some (.int .i64 0) ∧ w'.cell? ⟨w.heap.size, 0, none⟩ = some (.slice gp u.globals.length gc) ∧ w'.cell? ⟨w.heap.size, 1, none⟩ = some (.slice fp u.funcs.length fc) := fun w' h =>
    ⟨h, (h.cell (p := ⟨w1.heap.size, 0, none⟩) z1).trans f1, (h.cell (p := ⟨w2.heap.size, 0, none⟩) z2).trans f2, (h.cell (p := ⟨w.heap.size, 0, none⟩) z0).trans (c0 0), (h.cell (p := ⟨w.heap.size, 1, none⟩) z0).trans (c0 1)⟩
  have HAll := hidI hAll
  clear hcc2 hcf2 hcc3 hcf3 hc0 c0 hW b3 HG HF HW HS1 HS2 hS1 hS2 hFW HB1 HB2 HB3 H12 H23 HBW H2W H1W f1 f2 hz1 hz2 hz3 hz4 hz5 hz6 hAll HH HC
  have B0 : Below W.heap.size W W.drew := (Below.refl _ _).drew
  have g0 : (0 : Int) ≤ (m : Int) := by omega
  have g1 : (m : Int) < u.funcs.length := by omega
  have hnf2 : u.funcs.length ≤ 140737488355328 := by omega
  have hgl1 : (graphTo u.funcs u.funcs.length).length = u.funcs.length := graphTo_all _
  have hrl : (reachL u.funcs m).length = u.funcs.length := by simp [reachL]
  obtain ⟨-, a1, a2, a3, a4⟩ := HAll.out _ B0
  go_region_with
    (first
      | (go_at_call 25; refine (refGraph_any u.funcs _ _ _ _ _ _ hnf (funsMono KF.out (by assumption))).mono ?_; rintro e w4 ⟨⟨p4, c4, rfl, hG4⟩, hb4⟩; have hN4 : Below W.heap.size W w4 := Below.trans (by assumption) (hb4.mono (Below.size (by assumption))); obtain ⟨-, d1, d2, d3, d4⟩ := HAll.out _ hN4)
      | (go_at_call 24; refine (rows_same (graphTo u.funcs u.funcs.length) _ _ _ _ _ _ hgl1 hnf2 (rows_below KS1.out (by assumption)) (by assumption)).mono ?_; rintro e w5 ⟨rfl, hb5⟩; have hN5 : Below W.heap.size W w5 := Below.trans (by assumption) (hb5.mono (Below.size (by assumption))); obtain ⟨-, e1, e2, e3, e4⟩ := HAll.out _ hN5)
      | (go_at_call 27; refine (table_any u.funcs _ _ _ _ _ _ hnf (funsMono KF.out (by assumption))).mono ?_; rintro e w6 ⟨⟨p6, c6, g6, rfl, hT6⟩, hb6⟩; have hN6 : Below W.heap.size W w6 := Below.trans (by assumption) (hb6.mono (Below.size (by assumption))); obtain ⟨q6, rfl, hc6⟩ := hT6.cell hml; obtain ⟨-, i1, i2, i3, i4⟩ := HAll.out _ hN6)
      | (go_at_call 28; refine (mainOf_at u.funcs _ _ _ _ _ m _ hnf2 (funsMono KF.out (by assumption)) hm).mono ?_; rintro e w7 ⟨rfl, hb7⟩; have hN7 : Below W.heap.size W w7 := Below.trans (by assumption) (hb7.mono (Below.size (by assumption))); (try (have hT7 := hT6.below hb7; obtain ⟨q7, hq7, hc7⟩ := hT7.cell hml; cases hq7)); obtain ⟨-, j1, j2, j3, j4⟩ := HAll.out _ hN7)
      | (go_at_call 26; refine (bools_same (reachL u.funcs m) _ _ _ _ _ _ hrl hnf2 (bools_below KS2.out (by assumption)) (by first | exact bools_row (hT7.row m hml) | exact bools_row (hT6.row m hml))).mono ?_; rintro e w8 ⟨rfl, hb8⟩; have hN8 : Below W.heap.size W w8 := Below.trans (by assumption) (hb8.mono (Below.size (by assumption)))))
  all_goals
    go_wp2
    go_ret
    exact ⟨rfl, KW.out.trans (Below.mono (by assumption) KW.out.size)⟩
theorem gsays_all (u : UniL) (gp fp : Option Addr) (gc fc : Nat) (w : World) (hgl : u.globals.length * 48 ≤ 140737488351232) (hG : SliceAt w 3 (GloR w) gp u.globals) (hfl : u.funcs.length * 56 ≤ 140737488351232) (hF : SliceAt w 4 (FunR w) fp u.funcs) (hw0 : Ways w) :
    Calls Tryd.prog 5 #[.agg #[.slice gp u.globals.length gc, .slice fp u.funcs.length fc]] w fun e w' => e = .returned (.bool true) ∧ Below w.heap.size w w' := by
  by_cases h : (chk u).1 = 0
  · obtain ⟨m, hm, _⟩ := (chk_ok h).2.main
    exact gsays_ok u gp fp gc fc m w hgl hG hfl hF hw0 h hm
  · exact gsays_bad u gp fp gc fc w hgl hG hfl hF hw0 h
end Go.Proofs.YteckkdmgkikeaaaDoor
