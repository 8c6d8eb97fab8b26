/-
  The contract of turnerylaw5.pureTold.
-/
import Derived.Test.YtlalmbklhmpngaaDoorPurM
import Derived.WalkKit
import Derived.WalkSpells
import Derived.WalkLawsBesides
namespace Go.Proofs.YtlalmbklhmpngaaDoor
open Go.RowKit

def toldI : List InsL := [⟨21, 0, false, 0, false, 0, 0, []⟩, ⟨22, -1, true, 0, false, 0, 0, []⟩, ⟨6, 0, false, 5, false, 0, 0, []⟩]
def toldU : UniL := ⟨[], [⟨⟨#[109, 97, 105, 110]⟩, 0, 1, [⟨[], toldI, ⟨1, false, 0, []⟩⟩]⟩]⟩
theorem told_chk : (chk toldU).1 = 0 := by kernel_rfl
theorem told_main : mainM toldU = 19 := by kernel_rfl

theorem told_un {W : World} {b1 b2 b3 : Nat} {T1 T2 T3 : TypeId} (h1 : W.heap[b1]? = some (.cells #[.string ⟨#[109, 97, 105, 110]⟩, .int .i64 0, .int .i64 1, .slice (some ⟨b2, 0, none⟩) 1 1] T1 (0, 0)))
    (h2 : W.heap[b2]? = some (.cells #[.slice none 0 0, .slice (some ⟨b3, 0, none⟩) 3 3, .int .i64 1, .bool false, .int .i64 0, .slice none 0 0] T2 (0, 0)))
    (h3 : W.heap[b3]? = some (.cells #[.int .i64 21, .int .i64 0, .bool false, .int .i64 0, .bool false, .int .i64 0, .int .i64 0, .slice none 0 0, .int .i64 22, .int .i64 (-1), .bool true, .int .i64 0, .bool false, .int .i64 0, .int .i64 0, .slice none 0 0, .int .i64 6, .int .i64 0, .bool false, .int .i64 5, .bool false, .int .i64 0, .int .i64 0, .slice none 0 0] T3 (0, 0))) (hw : Ways W) :
    UnA toldU none (some ⟨b1, 0, none⟩) W := by
  have hnil : ∀ {α : Type} (size bytes : Nat) (R : List Value → α → Prop), SlF W size bytes R (.slice none 0 0) ([] : List α) := fun size bytes R => ⟨none, 0, rfl, fun _ => ⟨rfl, rfl⟩, Nat.le_refl _, by simp, .inl rfl⟩
  have i64 : ∀ n : Int, -100 ≤ n → n ≤ 100 → I64 n := fun n _ _ => by unfold I64; omega
  have hi : SliceAt W 8 (InsR W) (some ⟨b3, 0, none⟩) toldI := by
    refine .inr ⟨b3, 0, rfl, fun i hi => ?_⟩
    have hi3 : i < 3 := hi
    match i, hi3 with
    | 0, _ => exact ⟨[.int .i64 21, .int .i64 0, .bool false, .int .i64 0, .bool false, .int .i64 0, .int .i64 0, .slice none 0 0], rfl, fun j hj => by rw [(blk h3).1]; match j, hj with | 0, _ | 1, _ | 2, _ | 3, _ | 4, _ | 5, _ | 6, _ | 7, _ => rfl, ⟨_, rfl, i64 21 (by decide) (by decide), i64 0 (by decide) (by decide), i64 0 (by decide) (by decide), i64 0 (by decide) (by decide), i64 0 (by decide) (by decide), hnil _ _ _⟩⟩
    | 1, _ => exact ⟨[.int .i64 22, .int .i64 (-1), .bool true, .int .i64 0, .bool false, .int .i64 0, .int .i64 0, .slice none 0 0], rfl, fun j hj => by rw [(blk h3).1]; match j, hj with | 0, _ | 1, _ | 2, _ | 3, _ | 4, _ | 5, _ | 6, _ | 7, _ => rfl, ⟨_, rfl, i64 22 (by decide) (by decide), i64 (-1) (by decide) (by decide), i64 0 (by decide) (by decide), i64 0 (by decide) (by decide), i64 0 (by decide) (by decide), hnil _ _ _⟩⟩
    | 2, _ => exact ⟨[.int .i64 6, .int .i64 0, .bool false, .int .i64 5, .bool false, .int .i64 0, .int .i64 0, .slice none 0 0], rfl, fun j hj => by rw [(blk h3).1]; match j, hj with | 0, _ | 1, _ | 2, _ | 3, _ | 4, _ | 5, _ | 6, _ | 7, _ => rfl, ⟨_, rfl, i64 6 (by decide) (by decide), i64 0 (by decide) (by decide), i64 5 (by decide) (by decide), i64 0 (by decide) (by decide), i64 0 (by decide) (by decide), hnil _ _ _⟩⟩
  have hb : SliceAt W 6 (BlkR W) (some ⟨b2, 0, none⟩) [(⟨[], toldI, ⟨1, false, 0, []⟩⟩ : BlkL)] := by
    refine .inr ⟨b2, 0, rfl, fun i hi0 => ?_⟩
    have hi1 : i < 1 := hi0
    match i, hi1 with
    | 0, _ => exact ⟨[.slice none 0 0, .slice (some ⟨b3, 0, none⟩) 3 3, .int .i64 1, .bool false, .int .i64 0, .slice none 0 0], rfl, fun j hj => by rw [(blk h2).1]; match j, hj with | 0, _ | 1, _ | 2, _ | 3, _ | 4, _ | 5, _ => rfl, ⟨_, _, _, rfl, i64 1 (by decide) (by decide), i64 0 (by decide) (by decide), hnil _ _ _, ⟨some ⟨b3, 0, none⟩, 3, rfl, (fun h => by cases h), Nat.le_refl _, by decide, hi⟩, hnil _ _ _⟩⟩
  refine ⟨by decide, .inl rfl, by decide, .inr ⟨b1, 0, rfl, fun i hi0 => ?_⟩, hw⟩
  have hi1 : i < 1 := hi0
  match i, hi1 with
  | 0, _ => exact ⟨[.string ⟨#[109, 97, 105, 110]⟩, .int .i64 0, .int .i64 1, .slice (some ⟨b2, 0, none⟩) 1 1], rfl, fun j hj => by rw [(blk h1).1]; match j, hj with | 0, _ | 1, _ | 2, _ | 3, _ => rfl, ⟨_, rfl, (by decide : (⟨#[109, 97, 105, 110]⟩ : ByteArray).size ≤ reachBytes), i64 0 (by decide) (by decide), i64 1 (by decide) (by decide), ⟨some ⟨b2, 0, none⟩, 1, rfl, (fun h => by cases h), Nat.le_refl _, by decide, hb⟩⟩⟩
set_option maxRecDepth 100000 in
set_option maxHeartbeats 1000000 in
theorem told_any {w : World} (hw : Ways w) :
    Calls Tryd.prog 29 #[] w fun e w' => e = .returned (.bool true) ∧ Below w.heap.size w w' := by
  have HW := hidI hw
  clear hw
  go_enter Tryd.func29, Tryd.ntmps29
  go_wp2_with fail
  have hpm := fun {W : World} (h : UnA toldU none (some ⟨w.heap.size + 1 + 1 + 1, 0, none⟩) W) => pmain_any (gc := 0) (fc := 1) h
  rw [told_main] at hpm
  refine (hpm (told_un (T1 := 55) (T2 := 78) (T3 := 26) (b2 := w.heap.size + 1 + 1) (b3 := w.heap.size + 1) ?_ ?_ ?_ (HW.out.below (by repeat (first | with_reducible exact Below.refl _ _ | with_reducible exact HB3.out | with_reducible refine Below.drew ?_ | with_reducible refine below_drewN ?_ _ | with_reducible refine Below.setCell ?_ ?_ _ | with_reducible refine Below.alloc ?_ ?_ _ | with_reducible exact HB2.out | with_reducible exact HB1.out | with_reducible refine Below.trans ?_ (Below.mono hb3 ?_) | with_reducible refine Below.trans ?_ (Below.mono hb5 ?_) | with_reducible refine Below.trans ?_ (Below.mono hb4 ?_) | omega | (simp; omega) | simp))))).mono ?_
  · exact heap_step (heap_at (by simp))
  · exact heap_step (heap_step (heap_at (by simp)))
  · exact heap_step (heap_step (heap_step (heap_at (by simp))))
  rintro e w2 ⟨rfl, hb2⟩
  have HB1 : Hid (Below w.heap.size w w2) := Below.trans (by repeat (first | with_reducible exact Below.refl _ _ | with_reducible exact HB3.out | with_reducible refine Below.drew ?_ | with_reducible refine below_drewN ?_ _ | with_reducible refine Below.setCell ?_ ?_ _ | with_reducible refine Below.alloc ?_ ?_ _ | with_reducible exact HB2.out | with_reducible exact HB1.out | with_reducible refine Below.trans ?_ (Below.mono hb3 ?_) | with_reducible refine Below.trans ?_ (Below.mono hb5 ?_) | with_reducible refine Below.trans ?_ (Below.mono hb4 ?_) | omega | (simp; omega) | simp)) (hb2.mono (by first | (simp; done) | (simp; omega)))
  clear hb2
  go_wp2_with fail
  go_ret
  exact ⟨rfl, by repeat (first | with_reducible exact Below.refl _ _ | with_reducible exact HB3.out | with_reducible refine Below.drew ?_ | with_reducible refine below_drewN ?_ _ | with_reducible refine Below.setCell ?_ ?_ _ | with_reducible refine Below.alloc ?_ ?_ _ | with_reducible exact HB2.out | with_reducible exact HB1.out | with_reducible refine Below.trans ?_ (Below.mono hb3 ?_) | with_reducible refine Below.trans ?_ (Below.mono hb5 ?_) | with_reducible refine Below.trans ?_ (Below.mono hb4 ?_) | omega | (simp; omega) | simp)⟩
end Go.Proofs.YtlalmbklhmpngaaDoor
