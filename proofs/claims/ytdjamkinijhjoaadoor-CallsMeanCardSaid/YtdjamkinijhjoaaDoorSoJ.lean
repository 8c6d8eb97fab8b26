/-
  The contracts of turnerysame.Vals and turnerysame.Ins: are two lists of values, two instructions, the same?
-/
import Derived.Test.YtdjamkinijhjoaaDoorSoK
import Derived.BigQuiet
import Derived.Deep.QuietTactic
import Derived.WalkKit
import Derived.WalkSpells
import Derived.WalkLawsBesides
namespace Go.Proofs.YtdjamkinijhjoaaDoor
open Go.RowKit

/-- the slice's values read as V says -/
def ValsAt (w : World) (p : Option Addr) (l : Nat) (V : Nat → Bool × Int) : Prop :=
  l = 0 ∨ ∃ b o, p = some ⟨b, o, none⟩ ∧ ∀ i, i < l → w.cell? ⟨b, o + i * 2, none⟩ = some (.bool (V i).1) ∧ w.cell? ⟨b, o + i * 2 + 1, none⟩ = some (.int .i64 (V i).2)

theorem ValsAt.below {w w' : World} {p : Option Addr} {l : Nat} {V : Nat → Bool × Int} (h : ValsAt w p l V) (hb : Below w.heap.size w w') : ValsAt w' p l V := by
  rcases h with h | ⟨b, o, rfl, h⟩
  · exact .inl h
  · refine .inr ⟨b, o, rfl, fun i hi => ?_⟩
    obtain ⟨h0, h1⟩ := h i hi
    exact ⟨(hb.cell (p := ⟨b, o + i * 2, none⟩) (lt_of_cell h0)).trans h0, (hb.cell (p := ⟨b, o + i * 2 + 1, none⟩) (lt_of_cell h0)).trans h1⟩

set_option maxHeartbeats 1000000 in
theorem vals_eq (b b' o o' n c d : Nat) (V V' : Nat → Bool × Int) (w : World) (hn : n ≤ 140737488355328)
    (h0 : ∀ i, i < n → w.cell? ⟨b, o + i * 2, none⟩ = some (.bool (V i).1)) (h1 : ∀ i, i < n → w.cell? ⟨b, o + i * 2 + 1, none⟩ = some (.int .i64 (V i).2))
    (g0 : ∀ i, i < n → w.cell? ⟨b', o' + i * 2, none⟩ = some (.bool (V' i).1)) (g1 : ∀ i, i < n → w.cell? ⟨b', o' + i * 2 + 1, none⟩ = some (.int .i64 (V' i).2)) :
    Calls Tryd.prog 120 #[.slice (some ⟨b, o, none⟩) n c, .slice (some ⟨b', o', none⟩) n d] w fun e w' => e = .returned (.bool (decide (∀ i, i < n → V i = V' i))) ∧ ∃ m, w' = w.drewN m := by
  have hb : ((n : Int) != (n : Int)) = false := by simp
  go_enter Tryd.func120, Tryd.ntmps120
  go_wp2
  go_loopw [5] (fun i wr => ∃ k m : Nat, k ≤ n ∧ i = .int .i64 k ∧ wr = w.drewN m ∧ ∀ j, j < k → V j = V' j) (fun i _ => n - (intOf i).toNat)
  case atStart => exact ⟨0, 0, by omega, rfl, rfl, fun j hj => by omega⟩
  case round =>
    obtain ⟨k, m, hk, rfl, rfl, hV⟩ := hrel
    by_cases hlt : k < n
    · have c0 := h0 k hlt
      have c1 := h1 k hlt
      have c2 := g0 k hlt
      have c3 := g1 k hlt
      have HV : Hid (∀ j, j < k → V j = V' j) := hV
      clear hV h0 h1 g0 g1
      generalize hv : V k = v at c0 c1
      generalize hv' : V' k = v' at c2 c3
      have Hv : Hid (V k = v) := hv
      have Hv' : Hid (V' k = v') := hv'
      clear hv hv'
      obtain ⟨r, x⟩ := v
      obtain ⟨r', x'⟩ := v'
      have hne := run_neVal r r' x x'
      go_wp2_with fail
      go_quiet (fail)
      go_wp2_with fail
      · rename_i hw
        go_ret
        refine ⟨?_, m + nq, by simp⟩
        rw [decide_eq_false]
        · rfl
        · intro hall
          have hk2 := hall k hlt
          rw [Hv.out, Hv'.out] at hk2
          obtain ⟨rfl, rfl⟩ := Prod.mk.inj hk2
          simp at hw
      · rename_i hw
        refine ⟨⟨k + 1, m + nq, by omega, by go_num, rfl, fun j hj => ?_⟩, by simp [intOf]; omega⟩
        by_cases hjk : j < k
        · exact HV.out j hjk
        · obtain rfl : j = k := by omega
          rw [Hv.out, Hv'.out]
          simp at hw
          rw [hw.1, hw.2]
    · go_wp2
      go_ret
      refine ⟨?_, m, rfl⟩
      rw [decide_eq_true]
      · rfl
      · intro i hi
        exact hV i (by omega)
set_option maxHeartbeats 400000 in
theorem vals_nil (p q : Option Addr) (c d : Nat) (w : World) :
    Calls Tryd.prog 120 #[.slice p 0 c, .slice q 0 d] w fun e w' => e = .returned (.bool true) ∧ w' = w := by
  go_enter Tryd.func120, Tryd.ntmps120
  go_wp2
  go_loop [5] (fun i => i = .int .i64 0) (fun _ => 0)
  case atStart => rfl
  case round =>
    subst hrel
    go_wp2
    go_ret
    exact ⟨rfl, rfl⟩

/-- the same list twice: true -/
theorem vals_same (p q : Option Addr) (l c d : Nat) (V : Nat → Bool × Int) (w : World) (hl : l ≤ 140737488355328) (h : ValsAt w p l V) (g : ValsAt w q l V) :
    Calls Tryd.prog 120 #[.slice p l c, .slice q l d] w fun e w' => e = .returned (.bool true) ∧ ∃ m, w' = w.drewN m := by
  rcases Nat.eq_zero_or_pos l with rfl | hp
  · exact (vals_nil p q c d w).mono fun e w' ⟨h1, h2⟩ => ⟨h1, 0, h2⟩
  rcases h with rfl | ⟨b, o, rfl, h⟩
  · exact absurd hp (by omega)
  rcases g with rfl | ⟨b', o', rfl, g⟩
  · exact absurd hp (by omega)
  refine (vals_eq b b' o o' l c d V V w hl (fun i hi => (h i hi).1) (fun i hi => (h i hi).2) (fun i hi => (g i hi).1) (fun i hi => (g i hi).2)).mono ?_
  rintro e w' ⟨rfl, hm⟩
  exact ⟨by simp, hm⟩

set_option maxRecDepth 100000 in
set_option maxHeartbeats 400000 in
/-- the same instruction twice: true -/
theorem ins_same (o d n n' f : Int) (r r' : Bool) (p q : Option Addr) (l c c' : Nat) (V : Nat → Bool × Int) (w : World) (hl : l ≤ 140737488355328) (h : ValsAt w p l V) (g : ValsAt w q l V) :
    Calls Tryd.prog 121 #[.agg #[.int .i64 o, .int .i64 d, .bool r, .int .i64 n, .bool r', .int .i64 n', .int .i64 f, .slice p l c], .agg #[.int .i64 o, .int .i64 d, .bool r, .int .i64 n, .bool r', .int .i64 n', .int .i64 f, .slice q l c']] w fun e w' => e = .returned (.bool true) ∧ Below w.heap.size w w' := by
  have H : Hid (ValsAt w p l V) := h
  have G : Hid (ValsAt w q l V) := g
  clear h g
  go_enter Tryd.func121, Tryd.ntmps121
  go_wp2_with fail
  refine (vals_same _ _ _ _ _ V _ hl (H.out.below ?_) (G.out.below ?_)).mono ?_
  · repeat (first | with_reducible exact Below.refl _ _ | with_reducible exact HB3.out | with_reducible refine Below.drew ?_ | with_reducible refine below_drewN ?_ _ | with_reducible refine Below.setCell ?_ ?_ _ | with_reducible refine Below.alloc ?_ ?_ _ | with_reducible exact HB2.out | with_reducible exact HB1.out | with_reducible refine Below.trans ?_ (Below.mono hb3 ?_) | with_reducible refine Below.trans ?_ (Below.mono hb5 ?_) | with_reducible refine Below.trans ?_ (Below.mono hb4 ?_) | omega | (simp; omega) | simp)
  · repeat (first | with_reducible exact Below.refl _ _ | with_reducible exact HB3.out | with_reducible refine Below.drew ?_ | with_reducible refine below_drewN ?_ _ | with_reducible refine Below.setCell ?_ ?_ _ | with_reducible refine Below.alloc ?_ ?_ _ | with_reducible exact HB2.out | with_reducible exact HB1.out | with_reducible refine Below.trans ?_ (Below.mono hb3 ?_) | with_reducible refine Below.trans ?_ (Below.mono hb5 ?_) | with_reducible refine Below.trans ?_ (Below.mono hb4 ?_) | omega | (simp; omega) | simp)
  rintro e w1 ⟨rfl, m, rfl⟩
  go_wp2
  go_ret
  refine ⟨rfl, ?_⟩
  repeat (first | with_reducible exact Below.refl _ _ | with_reducible exact HB3.out | with_reducible refine Below.drew ?_ | with_reducible refine below_drewN ?_ _ | with_reducible refine Below.setCell ?_ ?_ _ | with_reducible refine Below.alloc ?_ ?_ _ | with_reducible exact HB2.out | with_reducible exact HB1.out | with_reducible refine Below.trans ?_ (Below.mono hb3 ?_) | with_reducible refine Below.trans ?_ (Below.mono hb5 ?_) | with_reducible refine Below.trans ?_ (Below.mono hb4 ?_) | omega | (simp; omega) | simp)
end Go.Proofs.YtdjamkinijhjoaaDoor
