/-
  The contracts of turnerysame.Comes and turnerysame.Outcomes.
-/
import Derived.Test.YtdjamkinijhjoaaDoorRunX
import Derived.WalkKit
import Derived.WalkSpells
import Derived.WalkLawsBesides
namespace Go.Proofs.YtdjamkinijhjoaaDoor
open Go.RowKit

set_option maxHeartbeats 1000000 in
theorem comes_any (a b va vb sa sb : Int) (xs ys : List Int) (p q : Option Addr) (c d : Nat) (w : World) (hx : xs.length ≤ 140737488355328) (hy : ys.length ≤ 140737488355328) (hX : SliceAt w 1 IntR p xs) (hY : SliceAt w 1 IntR q ys) :
    Calls Tryd.prog 48 #[.agg #[.int .i64 a, .int .i64 va, .slice p xs.length c, .int .i64 sa], .agg #[.int .i64 b, .int .i64 vb, .slice q ys.length d, .int .i64 sb]] w fun e w' => e = .returned (.bool (decide (a = b ∧ va = vb ∧ xs = ys))) ∧ Below w.heap.size w w' := by
  have HI := hidI fun (W : World) (h : Below w.heap.size w W) => ints_any xs ys p q c d W hx hy (hX.mono h (by omega) fun _ _ g => g) (hY.mono h (by omega) fun _ _ g => g)
  clear hX hY
  by_cases h1 : a = b
  · by_cases h2 : va = vb
    · have e : decide (a = b ∧ va = vb ∧ xs = ys) = decide (xs = ys) := by simp [h1, h2]
      rw [e]
      subst h1 h2
      clear e
      go_enter Tryd.func48, Tryd.ntmps48
      go_wp2_with (go_at_call 73; refine (HI.out _ (by repeat (first | with_reducible exact Below.refl _ _ | with_reducible exact HB3.out | with_reducible refine Below.drew ?_ | with_reducible refine below_drewN ?_ _ | with_reducible refine Below.setCell ?_ ?_ _ | with_reducible refine Below.alloc ?_ ?_ _ | with_reducible exact HB2.out | with_reducible exact HB1.out | with_reducible refine Below.trans ?_ (Below.mono hb3 ?_) | with_reducible refine Below.trans ?_ (Below.mono hb5 ?_) | with_reducible refine Below.trans ?_ (Below.mono hb4 ?_) | omega | (simp; omega) | simp))).mono ?_; rintro e w2 ⟨rfl, hb2⟩; have HB1 : Hid (Below w.heap.size w w2) := Below.trans (by repeat (first | with_reducible exact Below.refl _ _ | with_reducible exact HB3.out | with_reducible refine Below.drew ?_ | with_reducible refine below_drewN ?_ _ | with_reducible refine Below.setCell ?_ ?_ _ | with_reducible refine Below.alloc ?_ ?_ _ | with_reducible exact HB2.out | with_reducible exact HB1.out | with_reducible refine Below.trans ?_ (Below.mono hb3 ?_) | with_reducible refine Below.trans ?_ (Below.mono hb5 ?_) | with_reducible refine Below.trans ?_ (Below.mono hb4 ?_) | omega | (simp; omega) | simp)) (hb2.mono (by first | (simp; done) | (simp; omega))))
      all_goals
        go_ret
        refine ⟨congrArg (fun b => Ending.returned (.bool b)) ?_, by repeat (first | with_reducible exact Below.refl _ _ | with_reducible exact HB3.out | with_reducible refine Below.drew ?_ | with_reducible refine below_drewN ?_ _ | with_reducible refine Below.setCell ?_ ?_ _ | with_reducible refine Below.alloc ?_ ?_ _ | with_reducible exact HB2.out | with_reducible exact HB1.out | with_reducible refine Below.trans ?_ (Below.mono hb3 ?_) | with_reducible refine Below.trans ?_ (Below.mono hb5 ?_) | with_reducible refine Below.trans ?_ (Below.mono hb4 ?_) | omega | (simp; omega) | simp)⟩
        first | rfl | (simp_all; done)
    · have e : decide (a = b ∧ va = vb ∧ xs = ys) = false := by simp [h2]
      rw [e]
      have hq : (va == vb) = false := by rw [beq_eq_false_iff_ne]; exact h2
      clear e h2
      subst h1
      go_enter Tryd.func48, Tryd.ntmps48
      go_wp2
      all_goals
        go_ret
        refine ⟨congrArg (fun b => Ending.returned (.bool b)) ?_, by repeat (first | with_reducible exact Below.refl _ _ | with_reducible exact HB3.out | with_reducible refine Below.drew ?_ | with_reducible refine below_drewN ?_ _ | with_reducible refine Below.setCell ?_ ?_ _ | with_reducible refine Below.alloc ?_ ?_ _ | with_reducible exact HB2.out | with_reducible exact HB1.out | with_reducible refine Below.trans ?_ (Below.mono hb3 ?_) | with_reducible refine Below.trans ?_ (Below.mono hb5 ?_) | with_reducible refine Below.trans ?_ (Below.mono hb4 ?_) | omega | (simp; omega) | simp)⟩
        first | rfl | (simp_all; done)
  · have e : decide (a = b ∧ va = vb ∧ xs = ys) = false := by simp [h1]
    rw [e]
    have hq : (a == b) = false := by rw [beq_eq_false_iff_ne]; exact h1
    clear e h1
    go_enter Tryd.func48, Tryd.ntmps48
    go_wp2
    all_goals
      go_ret
      refine ⟨congrArg (fun b => Ending.returned (.bool b)) ?_, by repeat (first | with_reducible exact Below.refl _ _ | with_reducible exact HB3.out | with_reducible refine Below.drew ?_ | with_reducible refine below_drewN ?_ _ | with_reducible refine Below.setCell ?_ ?_ _ | with_reducible refine Below.alloc ?_ ?_ _ | with_reducible exact HB2.out | with_reducible exact HB1.out | with_reducible refine Below.trans ?_ (Below.mono hb3 ?_) | with_reducible refine Below.trans ?_ (Below.mono hb5 ?_) | with_reducible refine Below.trans ?_ (Below.mono hb4 ?_) | omega | (simp; omega) | simp)⟩
      first | rfl | (simp_all; done)
set_option maxHeartbeats 1000000 in
theorem outcomes_any (a b va vb sa sb : Int) (xs ys : List Int) (p q : Option Addr) (c d : Nat) (w : World) (hx : xs.length ≤ 140737488355328) (hy : ys.length ≤ 140737488355328) (hX : SliceAt w 1 IntR p xs) (hY : SliceAt w 1 IntR q ys) :
    Calls Tryd.prog 21 #[.agg #[.int .i64 a, .int .i64 va, .slice p xs.length c, .int .i64 sa], .agg #[.int .i64 b, .int .i64 vb, .slice q ys.length d, .int .i64 sb]] w fun e w' => e = .returned (.bool (decide ((a = b ∧ va = vb ∧ xs = ys) ∧ sa = sb))) ∧ Below w.heap.size w w' := by
  have HI := hidI fun (W : World) (h : Below w.heap.size w W) => comes_any a b va vb sa sb xs ys p q c d W hx hy (hX.mono h (by omega) fun _ _ g => g) (hY.mono h (by omega) fun _ _ g => g)
  clear hX hY
  obtain ⟨r, hr⟩ : ∃ r, r = decide (a = b ∧ va = vb ∧ xs = ys) := ⟨_, rfl⟩
  have e : decide ((a = b ∧ va = vb ∧ xs = ys) ∧ sa = sb) = (r && sa == sb) := by rw [hr]; by_cases h : sa = sb <;> simp [h]
  rw [← hr] at HI
  rw [e]
  clear e hr
  cases r with
  | false =>
    go_enter Tryd.func21, Tryd.ntmps21
    go_wp2_with fail
    refine (HI.out _ (by repeat (first | with_reducible exact Below.refl _ _ | with_reducible exact HB3.out | with_reducible refine Below.drew ?_ | with_reducible refine below_drewN ?_ _ | with_reducible refine Below.setCell ?_ ?_ _ | with_reducible refine Below.alloc ?_ ?_ _ | with_reducible exact HB2.out | with_reducible exact HB1.out | with_reducible refine Below.trans ?_ (Below.mono hb3 ?_) | with_reducible refine Below.trans ?_ (Below.mono hb5 ?_) | with_reducible refine Below.trans ?_ (Below.mono hb4 ?_) | omega | (simp; omega) | simp))).mono ?_
    rintro e w2 ⟨rfl, hb2⟩
    have HB1 : Hid (Below w.heap.size w w2) := Below.trans (by repeat (first | with_reducible exact Below.refl _ _ | with_reducible exact HB3.out | with_reducible refine Below.drew ?_ | with_reducible refine below_drewN ?_ _ | with_reducible refine Below.setCell ?_ ?_ _ | with_reducible refine Below.alloc ?_ ?_ _ | with_reducible exact HB2.out | with_reducible exact HB1.out | with_reducible refine Below.trans ?_ (Below.mono hb3 ?_) | with_reducible refine Below.trans ?_ (Below.mono hb5 ?_) | with_reducible refine Below.trans ?_ (Below.mono hb4 ?_) | omega | (simp; omega) | simp)) (hb2.mono (by first | (simp; done) | (simp; omega)))
    clear hb2
    go_wp2_with fail
    all_goals
      go_ret
      exact ⟨rfl, by repeat (first | with_reducible exact Below.refl _ _ | with_reducible exact HB3.out | with_reducible refine Below.drew ?_ | with_reducible refine below_drewN ?_ _ | with_reducible refine Below.setCell ?_ ?_ _ | with_reducible refine Below.alloc ?_ ?_ _ | with_reducible exact HB2.out | with_reducible exact HB1.out | with_reducible refine Below.trans ?_ (Below.mono hb3 ?_) | with_reducible refine Below.trans ?_ (Below.mono hb5 ?_) | with_reducible refine Below.trans ?_ (Below.mono hb4 ?_) | omega | (simp; omega) | simp)⟩
  | true =>
    go_enter Tryd.func21, Tryd.ntmps21
    go_wp2_with fail
    refine (HI.out _ (by repeat (first | with_reducible exact Below.refl _ _ | with_reducible exact HB3.out | with_reducible refine Below.drew ?_ | with_reducible refine below_drewN ?_ _ | with_reducible refine Below.setCell ?_ ?_ _ | with_reducible refine Below.alloc ?_ ?_ _ | with_reducible exact HB2.out | with_reducible exact HB1.out | with_reducible refine Below.trans ?_ (Below.mono hb3 ?_) | with_reducible refine Below.trans ?_ (Below.mono hb5 ?_) | with_reducible refine Below.trans ?_ (Below.mono hb4 ?_) | omega | (simp; omega) | simp))).mono ?_
    rintro e w2 ⟨rfl, hb2⟩
    have HB1 : Hid (Below w.heap.size w w2) := Below.trans (by repeat (first | with_reducible exact Below.refl _ _ | with_reducible exact HB3.out | with_reducible refine Below.drew ?_ | with_reducible refine below_drewN ?_ _ | with_reducible refine Below.setCell ?_ ?_ _ | with_reducible refine Below.alloc ?_ ?_ _ | with_reducible exact HB2.out | with_reducible exact HB1.out | with_reducible refine Below.trans ?_ (Below.mono hb3 ?_) | with_reducible refine Below.trans ?_ (Below.mono hb5 ?_) | with_reducible refine Below.trans ?_ (Below.mono hb4 ?_) | omega | (simp; omega) | simp)) (hb2.mono (by first | (simp; done) | (simp; omega)))
    have c2 := (blk (heap_below hb2 (k := w.heap.size) (by first | (simp; done) | (simp; omega)) (heap_step (heap_here w _)))).1
    have c3 := (blk (heap_below hb2 (k := w.heap.size + 1) (by first | (simp; done) | (simp; omega)) (heap_at (w := w.alloc _) (o := .cells #[.int .i64 b, .int .i64 vb, .slice q ys.length d, .int .i64 sb] 65) (by simp)))).1
    have z2 : w.heap.size + 1 < w2.heap.size := by have := hb2.size; simp at this; omega
    clear hb2
    go_wp2_with fail
    all_goals
      go_ret
      refine ⟨congrArg (fun b => Ending.returned (.bool b)) ?_, by repeat (first | with_reducible exact Below.refl _ _ | with_reducible exact HB3.out | with_reducible refine Below.drew ?_ | with_reducible refine below_drewN ?_ _ | with_reducible refine Below.setCell ?_ ?_ _ | with_reducible refine Below.alloc ?_ ?_ _ | with_reducible exact HB2.out | with_reducible exact HB1.out | with_reducible refine Below.trans ?_ (Below.mono hb3 ?_) | with_reducible refine Below.trans ?_ (Below.mono hb5 ?_) | with_reducible refine Below.trans ?_ (Below.mono hb4 ?_) | omega | (simp; omega) | simp)⟩
      first | rfl | (simp_all; done)
end Go.Proofs.YtdjamkinijhjoaaDoor
