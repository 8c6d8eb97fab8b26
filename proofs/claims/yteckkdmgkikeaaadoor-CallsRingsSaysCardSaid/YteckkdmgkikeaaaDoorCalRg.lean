/-
  CallsRingsSays holds: for every input that reads as data the law returns true and the arguments read as they did. Condition: the listed variable code.ways holds what the program's text lays (tied by the card).
-/
import Derived.Test.YteckkdmgkikeaaaDoorCalRo
import Derived.Test.YteckkdmgkikeaaaDoorCalZ
import Derived.Test.YteckkdmgkikeaaaDoorCalAa
import Derived.Test.YteckkdmgkikeaaaDoorPurC
import Derived.Deep.RegionWith
import Derived.Test.YteckkdmgkikeaaaDoorLaidW
import Derived.Test.YteckkdmgkikeaaaDoorCards
import Derived.Test.YteckkdmgkikeaaaDoorTie
import Derived.SevenTiedAt
import Derived.WalkKit
import Derived.WalkSpells
import Derived.WalkLawsBesides
namespace Go.Proofs.YteckkdmgkikeaaaDoor
open Go.RowKit

theorem ints_below {w w' : World} {p : Option Addr} {xs : List Int} (h : SliceAt w 1 IntR p xs) (hb : Below w.heap.size w w') : SliceAt w' 1 IntR p xs :=
  h.mono hb (by omega) fun _ _ h => h
theorem ints_same (xs : List Int) (p q : Option Addr) (n c d : Nat) (w : World) (hn : xs.length = n) (hx : n ≤ 140737488355328) (hX : SliceAt w 1 IntR p xs) (hY : SliceAt w 1 IntR q xs) :
    Calls Tryd.prog 31 #[.slice p n c, .slice q n d] w fun e w' => e = .returned (.bool true) ∧ Below w.heap.size w w' := by
  subst hn
  refine (ints_any xs xs p q c d w hx hx hX hY).mono fun e w' h => ⟨?_, h.2⟩
  rw [h.1]; simp

set_option maxRecDepth 100000 in
set_option maxHeartbeats 1000000 in
theorem rsays_bad (u : UniL) (gp fp : Option Addr) (gc fc : Nat) (w : World) (hgl : u.globals.length * 48 ≤ 140737488351232) (hG : SliceAt w 3 (GloR w) gp u.globals) (hfl : u.funcs.length * 56 ≤ 140737488351232) (hF : SliceAt w 4 (FunR w) fp u.funcs) (hw0 : Ways w) (h : (chk u).1 ≠ 0) :
    Calls Tryd.prog 7 #[.agg #[.slice gp u.globals.length gc, .slice fp u.funcs.length fc]] w fun e w' => e = .returned (.bool true) ∧ Below w.heap.size w w' := by
  have HG := hidI hG
  have HF := hidI hF
  have HW := hidI hw0
  have HH := hidI h
  have hne : ((chk u).1 != 0) = true := by simp [h]
  have hq : ∀ w, (binOp .eql 27 (.agg #[.int .i64 (chk u).1, .int .i64 (chk u).2]) (.agg #[.int .i64 (chk u).1, .int .i64 (chk u).2])).run Tryd.prog w = .ok (.bool true) w := fun w => by rw [run_eqFault]; simp
  clear hG hF hw0 h
  go_enter Tryd.func7, Tryd.ntmps7
  go_wp2_with fail
  refine (rg_bad u _ _ _ _ _ hgl (glosMono HG.out (by repeat (first | with_reducible exact Below.refl _ _ | with_reducible exact HB3.out | with_reducible refine Below.drew ?_ | with_reducible refine below_drewN ?_ _ | with_reducible refine Below.setCell ?_ ?_ _ | with_reducible refine Below.alloc ?_ ?_ _ | with_reducible exact HB2.out | with_reducible exact HB1.out | with_reducible refine Below.trans ?_ (Below.mono hb3 ?_) | with_reducible refine Below.trans ?_ (Below.mono hb5 ?_) | with_reducible refine Below.trans ?_ (Below.mono hb4 ?_) | omega | (simp; omega) | simp))) hfl (funsMono HF.out (by repeat (first | with_reducible exact Below.refl _ _ | with_reducible exact HB3.out | with_reducible refine Below.drew ?_ | with_reducible refine below_drewN ?_ _ | with_reducible refine Below.setCell ?_ ?_ _ | with_reducible refine Below.alloc ?_ ?_ _ | with_reducible exact HB2.out | with_reducible exact HB1.out | with_reducible refine Below.trans ?_ (Below.mono hb3 ?_) | with_reducible refine Below.trans ?_ (Below.mono hb5 ?_) | with_reducible refine Below.trans ?_ (Below.mono hb4 ?_) | omega | (simp; omega) | simp))) (HW.out.below (by repeat (first | with_reducible exact Below.refl _ _ | with_reducible exact HB3.out | with_reducible refine Below.drew ?_ | with_reducible refine below_drewN ?_ _ | with_reducible refine Below.setCell ?_ ?_ _ | with_reducible refine Below.alloc ?_ ?_ _ | with_reducible exact HB2.out | with_reducible exact HB1.out | with_reducible refine Below.trans ?_ (Below.mono hb3 ?_) | with_reducible refine Below.trans ?_ (Below.mono hb5 ?_) | with_reducible refine Below.trans ?_ (Below.mono hb4 ?_) | omega | (simp; omega) | simp))) HH.out).mono ?_
  rintro e w1 ⟨rfl, hb1⟩
  have HB1 : Hid (Below w.heap.size w w1) := Below.trans (by repeat (first | with_reducible exact Below.refl _ _ | with_reducible exact HB3.out | with_reducible refine Below.drew ?_ | with_reducible refine below_drewN ?_ _ | with_reducible refine Below.setCell ?_ ?_ _ | with_reducible refine Below.alloc ?_ ?_ _ | with_reducible exact HB2.out | with_reducible exact HB1.out | with_reducible refine Below.trans ?_ (Below.mono hb3 ?_) | with_reducible refine Below.trans ?_ (Below.mono hb5 ?_) | with_reducible refine Below.trans ?_ (Below.mono hb4 ?_) | omega | (simp; omega) | simp)) (hb1.mono (by simp))
  have hc0 := fun o => (blk (heap_below hb1 (k := w.heap.size) (by simp) (heap_here w _))).1 o
  have hz1 : w.heap.size < w1.heap.size := by have := hb1.size; simp at this; omega
  clear hb1
  go_wp2_with fail
  refine (ord_bad u _ _ _ _ _ hgl (glosMono HG.out (by repeat (first | with_reducible exact Below.refl _ _ | with_reducible exact HB3.out | with_reducible refine Below.drew ?_ | with_reducible refine below_drewN ?_ _ | with_reducible refine Below.setCell ?_ ?_ _ | with_reducible refine Below.alloc ?_ ?_ _ | with_reducible exact HB2.out | with_reducible exact HB1.out | with_reducible refine Below.trans ?_ (Below.mono hb3 ?_) | with_reducible refine Below.trans ?_ (Below.mono hb5 ?_) | with_reducible refine Below.trans ?_ (Below.mono hb4 ?_) | omega | (simp; omega) | simp))) hfl (funsMono HF.out (by repeat (first | with_reducible exact Below.refl _ _ | with_reducible exact HB3.out | with_reducible refine Below.drew ?_ | with_reducible refine below_drewN ?_ _ | with_reducible refine Below.setCell ?_ ?_ _ | with_reducible refine Below.alloc ?_ ?_ _ | with_reducible exact HB2.out | with_reducible exact HB1.out | with_reducible refine Below.trans ?_ (Below.mono hb3 ?_) | with_reducible refine Below.trans ?_ (Below.mono hb5 ?_) | with_reducible refine Below.trans ?_ (Below.mono hb4 ?_) | omega | (simp; omega) | simp))) (HW.out.below (by repeat (first | with_reducible exact Below.refl _ _ | with_reducible exact HB3.out | with_reducible refine Below.drew ?_ | with_reducible refine below_drewN ?_ _ | with_reducible refine Below.setCell ?_ ?_ _ | with_reducible refine Below.alloc ?_ ?_ _ | with_reducible exact HB2.out | with_reducible exact HB1.out | with_reducible refine Below.trans ?_ (Below.mono hb3 ?_) | with_reducible refine Below.trans ?_ (Below.mono hb5 ?_) | with_reducible refine Below.trans ?_ (Below.mono hb4 ?_) | omega | (simp; omega) | simp))) HH.out).mono ?_
  rintro e w2 ⟨rfl, hb2⟩
  have HB2 : Hid (Below w.heap.size w w2) := Below.trans (by repeat (first | with_reducible exact Below.refl _ _ | with_reducible exact HB3.out | with_reducible refine Below.drew ?_ | with_reducible refine below_drewN ?_ _ | with_reducible refine Below.setCell ?_ ?_ _ | with_reducible refine Below.alloc ?_ ?_ _ | with_reducible exact HB2.out | with_reducible exact HB1.out | with_reducible refine Below.trans ?_ (Below.mono hb3 ?_) | with_reducible refine Below.trans ?_ (Below.mono hb5 ?_) | with_reducible refine Below.trans ?_ (Below.mono hb4 ?_) | omega | (simp; omega) | simp)) (hb2.mono (by simp; omega))
  have hz2 : w.heap.size < w2.heap.size := by have := hb2.size; simp at this; omega
  have hz3 : w1.heap.size < w2.heap.size := by have := hb2.size; simp at this; omega
  obtain ⟨hcc2, hcf2, _⟩ := bcell hb2
  clear hb2
  go_wp2_with fail
  refine (check_any u _ _ _ _ _ hgl (glosMono HG.out (by repeat (first | with_reducible exact Below.refl _ _ | with_reducible exact HB3.out | with_reducible refine Below.drew ?_ | with_reducible refine below_drewN ?_ _ | with_reducible refine Below.setCell ?_ ?_ _ | with_reducible refine Below.alloc ?_ ?_ _ | with_reducible exact HB2.out | with_reducible exact HB1.out | with_reducible refine Below.trans ?_ (Below.mono hb3 ?_) | with_reducible refine Below.trans ?_ (Below.mono hb5 ?_) | with_reducible refine Below.trans ?_ (Below.mono hb4 ?_) | omega | (simp; omega) | simp))) hfl (funsMono HF.out (by repeat (first | with_reducible exact Below.refl _ _ | with_reducible exact HB3.out | with_reducible refine Below.drew ?_ | with_reducible refine below_drewN ?_ _ | with_reducible refine Below.setCell ?_ ?_ _ | with_reducible refine Below.alloc ?_ ?_ _ | with_reducible exact HB2.out | with_reducible exact HB1.out | with_reducible refine Below.trans ?_ (Below.mono hb3 ?_) | with_reducible refine Below.trans ?_ (Below.mono hb5 ?_) | with_reducible refine Below.trans ?_ (Below.mono hb4 ?_) | omega | (simp; omega) | simp))) (HW.out.below (by repeat (first | with_reducible exact Below.refl _ _ | with_reducible exact HB3.out | with_reducible refine Below.drew ?_ | with_reducible refine below_drewN ?_ _ | with_reducible refine Below.setCell ?_ ?_ _ | with_reducible refine Below.alloc ?_ ?_ _ | with_reducible exact HB2.out | with_reducible exact HB1.out | with_reducible refine Below.trans ?_ (Below.mono hb3 ?_) | with_reducible refine Below.trans ?_ (Below.mono hb5 ?_) | with_reducible refine Below.trans ?_ (Below.mono hb4 ?_) | omega | (simp; omega) | simp)))).mono ?_
  rintro e w3 ⟨rfl, hb3⟩
  have HB3 : Hid (Below w.heap.size w w3) := Below.trans (by repeat (first | with_reducible exact Below.refl _ _ | with_reducible exact HB3.out | with_reducible refine Below.drew ?_ | with_reducible refine below_drewN ?_ _ | with_reducible refine Below.setCell ?_ ?_ _ | with_reducible refine Below.alloc ?_ ?_ _ | with_reducible exact HB2.out | with_reducible exact HB1.out | with_reducible refine Below.trans ?_ (Below.mono hb3 ?_) | with_reducible refine Below.trans ?_ (Below.mono hb5 ?_) | with_reducible refine Below.trans ?_ (Below.mono hb4 ?_) | omega | (simp; omega) | simp)) (hb3.mono (by simp; omega))
  have hz4 : w.heap.size < w3.heap.size := by have := hb3.size; simp at this; omega
  have hz5 : w1.heap.size < w3.heap.size := by have := hb3.size; simp at this; omega
  have hz6 : w2.heap.size < w3.heap.size := by have := hb3.size; simp at this; omega
  obtain ⟨hcc3, hcf3, _⟩ := bcell hb3
  clear hb3
  go_wp2
  go_ret
  refine ⟨rfl, by repeat (first | with_reducible exact Below.refl _ _ | with_reducible exact HB3.out | with_reducible refine Below.drew ?_ | with_reducible refine below_drewN ?_ _ | with_reducible refine Below.setCell ?_ ?_ _ | with_reducible refine Below.alloc ?_ ?_ _ | with_reducible exact HB2.out | with_reducible exact HB1.out | with_reducible refine Below.trans ?_ (Below.mono hb3 ?_) | with_reducible refine Below.trans ?_ (Below.mono hb5 ?_) | with_reducible refine Below.trans ?_ (Below.mono hb4 ?_) | omega | (simp; omega) | simp)⟩

set_option maxRecDepth 100000 in
set_option maxHeartbeats 1000000 in
theorem rsays_ok (u : UniL) (gp fp : Option Addr) (gc fc : Nat) (w : World) (hgl : u.globals.length * 48 ≤ 140737488351232) (hG : SliceAt w 3 (GloR w) gp u.globals) (hfl : u.funcs.length * 56 ≤ 140737488351232) (hF : SliceAt w 4 (FunR w) fp u.funcs) (hw0 : Ways w) (h : (chk u).1 = 0) :
    Calls Tryd.prog 7 #[.agg #[.slice gp u.globals.length gc, .slice fp u.funcs.length fc]] w fun e w' => e = .returned (.bool true) ∧ Below w.heap.size w w' := by
  have HG := hidI hG
  have HF := hidI hF
  have HW := hidI hw0
  have HH := hidI h
  have HC := hidI (chk_ok h).1
  have hnf := (chk_ok h).2.nf
  clear hG hF hw0 h
  go_enter Tryd.func7, Tryd.ntmps7
  go_wp2_with fail
  refine (rg_ok u _ _ _ _ _ hgl (glosMono HG.out (by repeat (first | with_reducible exact Below.refl _ _ | with_reducible exact HB3.out | with_reducible refine Below.drew ?_ | with_reducible refine below_drewN ?_ _ | with_reducible refine Below.setCell ?_ ?_ _ | with_reducible refine Below.alloc ?_ ?_ _ | with_reducible exact HB2.out | with_reducible exact HB1.out | with_reducible refine Below.trans ?_ (Below.mono hb3 ?_) | with_reducible refine Below.trans ?_ (Below.mono hb5 ?_) | with_reducible refine Below.trans ?_ (Below.mono hb4 ?_) | omega | (simp; omega) | simp))) hfl (funsMono HF.out (by repeat (first | with_reducible exact Below.refl _ _ | with_reducible exact HB3.out | with_reducible refine Below.drew ?_ | with_reducible refine below_drewN ?_ _ | with_reducible refine Below.setCell ?_ ?_ _ | with_reducible refine Below.alloc ?_ ?_ _ | with_reducible exact HB2.out | with_reducible exact HB1.out | with_reducible refine Below.trans ?_ (Below.mono hb3 ?_) | with_reducible refine Below.trans ?_ (Below.mono hb5 ?_) | with_reducible refine Below.trans ?_ (Below.mono hb4 ?_) | omega | (simp; omega) | simp))) (HW.out.below (by repeat (first | with_reducible exact Below.refl _ _ | with_reducible exact HB3.out | with_reducible refine Below.drew ?_ | with_reducible refine below_drewN ?_ _ | with_reducible refine Below.setCell ?_ ?_ _ | with_reducible refine Below.alloc ?_ ?_ _ | with_reducible exact HB2.out | with_reducible exact HB1.out | with_reducible refine Below.trans ?_ (Below.mono hb3 ?_) | with_reducible refine Below.trans ?_ (Below.mono hb5 ?_) | with_reducible refine Below.trans ?_ (Below.mono hb4 ?_) | omega | (simp; omega) | simp))) HH.out).mono ?_
  rintro e w1 ⟨T, rfl, hS1, hb1⟩
  have HS1 := hidI hS1
  have HB1 : Hid (Below w.heap.size w w1) := Below.trans (by repeat (first | with_reducible exact Below.refl _ _ | with_reducible exact HB3.out | with_reducible refine Below.drew ?_ | with_reducible refine below_drewN ?_ _ | with_reducible refine Below.setCell ?_ ?_ _ | with_reducible refine Below.alloc ?_ ?_ _ | with_reducible exact HB2.out | with_reducible exact HB1.out | with_reducible refine Below.trans ?_ (Below.mono hb3 ?_) | with_reducible refine Below.trans ?_ (Below.mono hb5 ?_) | with_reducible refine Below.trans ?_ (Below.mono hb4 ?_) | omega | (simp; omega) | simp)) (hb1.mono (by simp))
  have hc0 := fun o => (blk (heap_below hb1 (k := w.heap.size) (by simp) (heap_here w _))).1 o
  have hz1 : w.heap.size < w1.heap.size := by have := hb1.size; simp at this; omega
  clear hb1 hS1
  go_wp2_with fail
  refine (ord_ok u _ _ _ _ _ hgl (glosMono HG.out (by repeat (first | with_reducible exact Below.refl _ _ | with_reducible exact HB3.out | with_reducible refine Below.drew ?_ | with_reducible refine below_drewN ?_ _ | with_reducible refine Below.setCell ?_ ?_ _ | with_reducible refine Below.alloc ?_ ?_ _ | with_reducible exact HB2.out | with_reducible exact HB1.out | with_reducible refine Below.trans ?_ (Below.mono hb3 ?_) | with_reducible refine Below.trans ?_ (Below.mono hb5 ?_) | with_reducible refine Below.trans ?_ (Below.mono hb4 ?_) | omega | (simp; omega) | simp))) hfl (funsMono HF.out (by repeat (first | with_reducible exact Below.refl _ _ | with_reducible exact HB3.out | with_reducible refine Below.drew ?_ | with_reducible refine below_drewN ?_ _ | with_reducible refine Below.setCell ?_ ?_ _ | with_reducible refine Below.alloc ?_ ?_ _ | with_reducible exact HB2.out | with_reducible exact HB1.out | with_reducible refine Below.trans ?_ (Below.mono hb3 ?_) | with_reducible refine Below.trans ?_ (Below.mono hb5 ?_) | with_reducible refine Below.trans ?_ (Below.mono hb4 ?_) | omega | (simp; omega) | simp))) (HW.out.below (by repeat (first | with_reducible exact Below.refl _ _ | with_reducible exact HB3.out | with_reducible refine Below.drew ?_ | with_reducible refine below_drewN ?_ _ | with_reducible refine Below.setCell ?_ ?_ _ | with_reducible refine Below.alloc ?_ ?_ _ | with_reducible exact HB2.out | with_reducible exact HB1.out | with_reducible refine Below.trans ?_ (Below.mono hb3 ?_) | with_reducible refine Below.trans ?_ (Below.mono hb5 ?_) | with_reducible refine Below.trans ?_ (Below.mono hb4 ?_) | omega | (simp; omega) | simp))) HH.out).mono ?_
  rintro e w2 ⟨p2, c2, rfl, hS2, hb2⟩
  have HS2 := hidI hS2
  have HB2 : Hid (Below w.heap.size w w2) := Below.trans (by repeat (first | with_reducible exact Below.refl _ _ | with_reducible exact HB3.out | with_reducible refine Below.drew ?_ | with_reducible refine below_drewN ?_ _ | with_reducible refine Below.setCell ?_ ?_ _ | with_reducible refine Below.alloc ?_ ?_ _ | with_reducible exact HB2.out | with_reducible exact HB1.out | with_reducible refine Below.trans ?_ (Below.mono hb3 ?_) | with_reducible refine Below.trans ?_ (Below.mono hb5 ?_) | with_reducible refine Below.trans ?_ (Below.mono hb4 ?_) | omega | (simp; omega) | simp)) (hb2.mono (by simp; omega))
  have H12 : Hid (Below w1.heap.size w1 w2) := ((Below.refl _ _).alloc (Nat.le_refl _) _).trans (hb2.mono (by simp))
  have hz2 : w.heap.size < w2.heap.size := by have := hb2.size; simp at this; omega
  have hz3 : w1.heap.size < w2.heap.size := by have := hb2.size; simp at this; omega
  obtain ⟨hcc2, hcf2, _⟩ := bcell hb2
  clear hb2 hS2
  go_wp2_with fail
  refine (check_any u _ _ _ _ _ hgl (glosMono HG.out (by repeat (first | with_reducible exact Below.refl _ _ | with_reducible exact HB3.out | with_reducible refine Below.drew ?_ | with_reducible refine below_drewN ?_ _ | with_reducible refine Below.setCell ?_ ?_ _ | with_reducible refine Below.alloc ?_ ?_ _ | with_reducible exact HB2.out | with_reducible exact HB1.out | with_reducible refine Below.trans ?_ (Below.mono hb3 ?_) | with_reducible refine Below.trans ?_ (Below.mono hb5 ?_) | with_reducible refine Below.trans ?_ (Below.mono hb4 ?_) | omega | (simp; omega) | simp))) hfl (funsMono HF.out (by repeat (first | with_reducible exact Below.refl _ _ | with_reducible exact HB3.out | with_reducible refine Below.drew ?_ | with_reducible refine below_drewN ?_ _ | with_reducible refine Below.setCell ?_ ?_ _ | with_reducible refine Below.alloc ?_ ?_ _ | with_reducible exact HB2.out | with_reducible exact HB1.out | with_reducible refine Below.trans ?_ (Below.mono hb3 ?_) | with_reducible refine Below.trans ?_ (Below.mono hb5 ?_) | with_reducible refine Below.trans ?_ (Below.mono hb4 ?_) | omega | (simp; omega) | simp))) (HW.out.below (by repeat (first | with_reducible exact Below.refl _ _ | with_reducible exact HB3.out | with_reducible refine Below.drew ?_ | with_reducible refine below_drewN ?_ _ | with_reducible refine Below.setCell ?_ ?_ _ | with_reducible refine Below.alloc ?_ ?_ _ | with_reducible exact HB2.out | with_reducible exact HB1.out | with_reducible refine Below.trans ?_ (Below.mono hb3 ?_) | with_reducible refine Below.trans ?_ (Below.mono hb5 ?_) | with_reducible refine Below.trans ?_ (Below.mono hb4 ?_) | omega | (simp; omega) | simp)))).mono ?_
  rintro e w3 ⟨rfl, hb3⟩
  rw [HC.out]
  have HB3 : Hid (Below w.heap.size w w3) := Below.trans (by repeat (first | with_reducible exact Below.refl _ _ | with_reducible exact HB3.out | with_reducible refine Below.drew ?_ | with_reducible refine below_drewN ?_ _ | with_reducible refine Below.setCell ?_ ?_ _ | with_reducible refine Below.alloc ?_ ?_ _ | with_reducible exact HB2.out | with_reducible exact HB1.out | with_reducible refine Below.trans ?_ (Below.mono hb3 ?_) | with_reducible refine Below.trans ?_ (Below.mono hb5 ?_) | with_reducible refine Below.trans ?_ (Below.mono hb4 ?_) | omega | (simp; omega) | simp)) (hb3.mono (by simp; omega))
  have H23 : Hid (Below w2.heap.size w2 w3) := ((Below.refl _ _).alloc (Nat.le_refl _) _).trans (hb3.mono (by simp))
  have hz4 : w.heap.size < w3.heap.size := by have := hb3.size; simp at this; omega
  have hz5 : w1.heap.size < w3.heap.size := by have := hb3.size; simp at this; omega
  have hz6 : w2.heap.size < w3.heap.size := by have := hb3.size; simp at this; omega
  obtain ⟨hcc3, hcf3, _⟩ := bcell hb3
  clear hb3
  go_wp2_with fail
  obtain ⟨W, hW⟩ : ∃ W, w3.alloc (.cells #[.int .i64 0, .int .i64 0] 27) = W := ⟨_, rfl⟩
  rw [hW]
  have b3 : Below w3.heap.size w3 W := by rw [← hW]; exact (Below.refl _ _).alloc (Nat.le_refl _) _
  have HBW : Hid (Below w.heap.size w W) := HB3.out.trans (b3.mono (by omega))
  have H2W : Hid (Below w2.heap.size w2 W) := H23.out.trans (b3.mono (by omega))
  have H1W : Hid (Below w1.heap.size w1 W) := H12.out.trans (H2W.out.mono (by omega))
  have c0 : ∀ o, W.cell? ⟨w.heap.size, o, none⟩ = #[.slice gp u.globals.length gc, .slice fp u.funcs.length fc][o]? := fun o => (H1W.out.cell (p := ⟨w.heap.size, o, none⟩) hz1).trans (hc0 o)
  have z0 : w.heap.size < W.heap.size := by have := b3.size; omega
  have z1 : w1.heap.size < W.heap.size := by have := b3.size; omega
  have z2 : w2.heap.size < W.heap.size := by have := b3.size; omega
  have f1 : W.cell? ⟨w1.heap.size, 0, none⟩ = some (.int .i64 0) := (b3.cell (p := ⟨w1.heap.size, 0, none⟩) hz5).trans ((hcc3 w1.heap.size 0 (by simp; omega)).trans (by go_simp))
  have f2 : W.cell? ⟨w2.heap.size, 0, none⟩ = some (.int .i64 0) := (b3.cell (p := ⟨w2.heap.size, 0, none⟩) hz6).trans ((hcc3 w2.heap.size 0 (by simp)).trans (by go_simp))
  have hS1 := ints_below HS1.out H1W.out
  have hS2 := ints_below HS2.out H2W.out
  have hFW := funsMono HF.out HBW.out
  have KS1 := hidI hS1
  have KS2 := hidI hS2
  have KF := hidI hFW
  have KW := hidI HBW.out
  have hAll : ∀ w', Below W.heap.size W w' → Below W.heap.size W w' ∧ w'.cell? ⟨w1.heap.size, 0, none⟩ = some (.int .i64 0) ∧ w'.cell? ⟨w2.heap.size, 0, none⟩ = some (.int .i64 0) ∧ w'.cell? ⟨w.heap.size, 0, none⟩ = some (.slice gp u.globals.length gc) ∧ w'.cell? ⟨w.heap.size, 1, none⟩ = some (.slice fp u.funcs.length fc) := fun w' h =>
    ⟨h, (h.cell (p := ⟨w1.heap.size, 0, none⟩) z1).trans f1, (h.cell (p := ⟨w2.heap.size, 0, none⟩) z2).trans f2, (h.cell (p := ⟨w.heap.size, 0, none⟩) z0).trans (c0 0), (h.cell (p := ⟨w.heap.size, 1, none⟩) z0).trans (c0 1)⟩
  have HAll := hidI hAll
  clear hcc2 hcf2 hcc3 hcf3 hc0 c0 hW b3 HG HF HW HS1 HS2 hS1 hS2 hFW HB1 HB2 HB3 H12 H23 HBW H2W H1W f1 f2 hz1 hz2 hz3 hz4 hz5 hz6 hAll HH HC
  have hnf2 : u.funcs.length ≤ 140737488355328 := by omega
  have hrl : (ringsL u.funcs.length (tableU u.funcs)).length = u.funcs.length := ringsL_len _ _
  have hol : (intsN (orderU u.funcs)).length = u.funcs.length := by rw [intsN_len]; exact orderU_len _
  refine (refRings_any u.funcs _ _ _ _ _ _ hnf KF.out).mono ?_
  rintro e w4 ⟨⟨p4, c4, rfl, hG4⟩, hb4⟩
  have HG4 := hidI hG4
  have N4 := hidI hb4
  obtain ⟨-, a1, a2, a3, a4⟩ := HAll.out _ hb4
  have q0 := hb4.size
  clear hG4 hb4
  go_wp2_with fail
  refine (ints_same (ringsL u.funcs.length (tableU u.funcs)) _ _ _ _ _ _ hrl hnf2 (ints_below KS1.out N4.out) HG4.out).mono ?_
  rintro e w5 ⟨rfl, hb5⟩
  have N5 : Hid (Below W.heap.size W w5) := N4.out.trans (hb5.mono q0)
  obtain ⟨-, d1, d2, d3, d4⟩ := HAll.out _ N5.out
  have q1 := N5.out.size
  clear hb5 a1 a2 a3 a4 HG4
  go_wp2_with fail
  refine (refOrder_any u.funcs _ _ _ _ _ _ hnf (funsMono KF.out N5.out)).mono ?_
  rintro e w6 ⟨⟨p6, c6, rfl, hG6⟩, hb6⟩
  have HG6 := hidI hG6
  have N6 : Hid (Below W.heap.size W w6) := N5.out.trans (hb6.mono q1)
  have q2 := N6.out.size
  clear hG6 hb6 d1 d2 d3 d4
  go_wp2_with fail
  refine (ints_same (intsN (orderU u.funcs)) _ _ _ _ _ _ hol hnf2 (ints_below KS2.out N6.out) HG6.out).mono ?_
  rintro e w7 ⟨rfl, hb7⟩
  have N7 : Hid (Below W.heap.size W w7) := N6.out.trans (hb7.mono q2)
  clear hb7
  go_wp2_with fail
  go_ret
  exact ⟨rfl, KW.out.trans (N7.out.mono KW.out.size)⟩
theorem rsays_all (u : UniL) (gp fp : Option Addr) (gc fc : Nat) (w : World) (hgl : u.globals.length * 48 ≤ 140737488351232) (hG : SliceAt w 3 (GloR w) gp u.globals) (hfl : u.funcs.length * 56 ≤ 140737488351232) (hF : SliceAt w 4 (FunR w) fp u.funcs) (hw0 : Ways w) :
    Calls Tryd.prog 7 #[.agg #[.slice gp u.globals.length gc, .slice fp u.funcs.length fc]] w fun e w' => e = .returned (.bool true) ∧ Below w.heap.size w w' := by
  by_cases h : (chk u).1 = 0
  · exact rsays_ok u gp fp gc fc w hgl hG hfl hF hw0 h
  · exact rsays_bad u gp fp gc fc w hgl hG hfl hF hw0 h

open Go Go.RowKit Go.ChangeShapes Go.WideShapes Go.ChangeAt

theorem callsRingsSays_read : ∀ t ∈ [25], Tryd.prog.readableRec t = true ∧ t < Tryd.prog.types.size := by
  have h : ∀ t ∈ [25], (Tryd.prog.readableRec t && decide (t < Tryd.prog.types.size)) = true := List.all_eq_true.1 (by kernel_rfl)
  intro t ht
  have := h t ht
  simp only [Bool.and_eq_true, decide_eq_true_eq] at this
  exact this

set_option maxRecDepth 100000 in
theorem callsRingsSays_lifted (os : Os) (started : os.Started) (H : Type) (enc : TypeId × Value → H) :
    ReturnsInHanded {} Tryd.checked os 7 .any (fun w args => (Rows.callsRingsSaysSpec.pre enc Tryd.prog Tryd.f7 [] false w args ∧ laidMetH Tryd.prog laidWays w) ∧ sizedMet enc Tryd.prog Tryd.f7 (OpenSpec.ofChange Rows.callsRingsSaysSpec) false w args)
      (Rows.callsRingsSaysSpec.post enc Tryd.prog Tryd.f7 false true false false) := by
  refine returnsInHanded_of_change_and (C := Tryd.checked) (X := fun w _ => laidMetH Tryd.prog laidWays w) (fun _ _ _ hh h => h.of_heap hh) own started (by kernel_rfl) Tryd.func7
    (ChangeSpec.witness_shaped (enc := enc) (C := Tryd.checked) (os := os) (X := fun w _ => laidMetH Tryd.prog laidWays w) false (World.doorLaid Tryd.prog 400 os) #[.agg #[.slice none 0 0, .slice none 0 0]] 8 rfl (World.shaped_of_RefB (by kernel_rfl) (by kernel_rfl)) (by kernel_rfl) (by kernel_rfl) (by kernel_rfl) (door_ways os _)) ?_
  intro W base args ds gs before hval0 hW _ hsz0 hL _
  have hval : ∀ (j : Nat) t v, Tryd.f7.params[j]? = some t → args[j]? = some v → Value.okWide Tryd.prog W .any base t v := hval0
  have hsz : (DataW.weightsEach Tryd.prog (Tryd.f7.params.toList ++ Rows.callsRingsSaysSpec.plain.varTypes Tryd.prog) (ds ++ gs)).all (· ≤ reachBytes) = true := hsz0
  have hways : Ways W := ways_of_laid hL
  have hW' := hW
  obtain ⟨p, q, hA0, hV, rfl, hfz, hnd⟩ := hW
  have hA : DataW.TrodAll enc Tryd.prog W 0 (fun _ => true) true Tryd.f7.params.toList args.toList ds p := hA0
  rw [Tryd.params7] at hA hval hsz
  obtain ⟨v0, d0, rfl, rfl, h0⟩ := trodAll_one hA
  obtain ⟨rfl, rfl⟩ := trodVars_none hV
  clear hA0 hval0 hsz0
  have hw0 : ∀ k ∈ d0.weights Tryd.prog 25, k ≤ reachBytes := by
    intro k hk
    have := List.all_eq_true.1 hsz k (by
      show k ∈ DataW.weightsEach Tryd.prog (25 :: _) (d0 :: _)
      simp only [DataW.weightsEach]
      exact List.mem_append_left _ hk)
    simpa using this
  obtain ⟨fuel0, hf0⟩ := h0
  obtain ⟨u0, a0, b0, hcs0, hg0, hfn0⟩ := rd_uni hf0 hw0
  obtain ⟨cs0, rfl, hsize0⟩ := okWide_struct Tryd.underlying25 (hval 0 25 v0 rfl rfl)
  obtain ⟨gp0, gc0, rfl, hgl0, hG0⟩ := hg0.out
  obtain ⟨fp0, fc0, rfl, hfl0, hF0⟩ := hfn0.out
  have hcs20 : cs0 = #[.slice gp0 u0.globals.length gc0, .slice fp0 u0.funcs.length fc0] := by
    apply Array.toList_inj.1
    exact hcs0
  subst hcs20
  refine (rsays_all u0 gp0 fp0 gc0 fc0 W hgl0 hG0 hfl0 hF0 hways).mono fun e W' ⟨he, hb⟩ => ?_
  exact ⟨_, he, law_post laidOut rfl Tryd.underlying4 (by rw [Tryd.params7]; exact callsRingsSays_read) rfl hW' rfl hb⟩

theorem CallsRingsSays_row : Rows.CallsRingsSaysSaid :=
  OpenClaim.holds_of_wide 7 Tryd.f7 rfl rfl rfl rfl rfl rfl rfl ⟨rfl, rfl, rfl, rfl, rfl⟩ rfl rfl rfl rfl rfl (by kernel_rfl) Tryd.func7 (by kernel_rfl)
    (of_decide_eq_true (by kernel_rfl)) (by unfold Func.isWrapper; first | (rw [if_pos (by decide +kernel)]; kernel_rfl) | (rw [if_neg (by decide +kernel)]; exact ⟨rfl, rfl⟩))
    (fun os started H enc _ => callsRingsSays_lifted os started H enc)

theorem CallsRingsSays_holds : Rows.CallsRingsSaysCardSaid :=
  Claim7.holds_tied_plain_at .later [] [.data] true Rows.callsRingsSaysCard.stood.harness false
    CallsRingsSays_row (fun _ h => by cases h) (by kernel_rfl) (fun _ h => by cases h) callsRingsSays_row_tie rfl ⟨rfl, rfl⟩ (by kernel_rfl) rfl
    (fun f fn hf hfn => by
      obtain rfl : f = 7 := Option.some.inj ((show Tryd.prog.funcNamed Rows.callsRingsSaysRow.func = some 7 by kernel_rfl).symm.trans hf) |>.symm
      obtain rfl : fn = Tryd.f7 := (Option.some.inj (Tryd.func7.symm.trans hfn)).symm
      exact ⟨by kernel_rfl, fun j t ht => by
        rw [Tryd.params7] at ht
        have hm : t ∈ [25] := by simpa using Array.mem_of_getElem? ht
        have hall : ([25].all fun u => !Tryd.prog.wantsStandIn u) = true := by kernel_rfl
        exact (show Tryd.prog.wantsStandIn t = false by simpa using List.all_eq_true.1 hall t hm)⟩)
    (by kernel_rfl)
#print axioms CallsRingsSays_holds
end Go.Proofs.YteckkdmgkikeaaaDoor
