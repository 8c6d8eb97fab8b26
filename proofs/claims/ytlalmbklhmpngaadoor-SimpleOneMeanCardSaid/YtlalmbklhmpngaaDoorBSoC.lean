/-
  The contract of simple.fixed: an instruction whose second value is a number.
The contract of simple.fixed: an instruction whose second value is a number.
The contract of simple.fixed: an instruction whose second value is a number.
The contract of simple.fixed: an instruction whose second value is a number.
-/
import Derived.Test.YtlalmbklhmpngaaDoorSoI
import Derived.RegionTactic
import Derived.Deep.RegionWith
import Derived.WalkKit
import Derived.WalkSpells
import Derived.WalkLawsBesides
namespace Go.Proofs.YtlalmbklhmpngaaDoor
open Go.RowKit

set_option maxHeartbeats 4000000 in
theorem fixed_0 (op dst an fn : Int) (ar : Bool) (ap : Option Addr) (al ac : Nat) (w : World) (h0 : op = 2 ∨ op = 3 ∨ op = 4 ∨ op = 5 ∨ op = 6 ∨ op = 7 ∨ op = 8 ∨ op = 9 ∨ op = 10 ∨ op = 11 ∨ op = 12 ∨ op = 13 ∨ op = 14 ∨ op = 15) :
    Calls Tryd.prog 72 #[.agg #[.int .i64 op, .int .i64 dst, .bool ar, .int .i64 an, .bool false, .int .i64 (0), .int .i64 fn, .slice ap al ac]] w fun e w' => InstPost (· = fixI op (0) dst an fn ar ap al ac) e ∧ Below w.heap.size w w' := by
  have h63 : bits .and .i64 (0) 63 = 0 := by rw [i64_and63]; rfl
  rcases h0 with rfl | rfl | rfl | rfl | rfl | rfl | rfl | rfl | rfl | rfl | rfl | rfl | rfl | rfl
  all_goals
    go_enter Tryd.func72, Tryd.ntmps72
    go_wp2_with fail
    go_region
    go_wp2_with (first | (go_at_call 69; refine (made1_any _ _ ?_ ?_ _ _ _ _ ?_ ?_).mono ?_; rotate_left 2; (focus (go_simp; rfl)); (focus (go_simp; rfl)); rintro e w2 ⟨rfl, rfl⟩) | (go_at_call 70; refine (num_any _ _).mono ?_; rintro e w1 ⟨rfl, rfl⟩))
    try (go_region_with (first | (go_at_call 70; refine (num_any _ _).mono ?_; rintro e w1 ⟨rfl, rfl⟩) | (go_at_call 69; refine (made1_any _ _ ?_ ?_ _ _ _ _ ?_ ?_).mono ?_; rotate_left 2; (focus (go_simp; rfl)); (focus (go_simp; rfl)); rintro e w2 ⟨rfl, rfl⟩)); go_wp2)
    all_goals (refine bodyPost_ret ?_ rfl ⟨InstPost.of _ rfl, ?_⟩; (focus (simp [results, Tryd.results72, go_sem, fixI, one1, Inst.cells])); repeat (first | with_reducible exact Below.refl _ _ | with_reducible exact HB3.out | with_reducible refine Below.drew ?_ | with_reducible refine below_drewN ?_ _ | with_reducible refine Below.setCell ?_ ?_ _ | with_reducible refine Below.alloc ?_ ?_ _ | with_reducible exact HB2.out | with_reducible exact HB1.out | with_reducible refine Below.trans ?_ (Below.mono hb3 ?_) | with_reducible refine Below.trans ?_ (Below.mono hb5 ?_) | with_reducible refine Below.trans ?_ (Below.mono hb4 ?_) | omega | (simp; omega) | simp))


end Go.Proofs.YtlalmbklhmpngaaDoor
namespace Go.Proofs.YtlalmbklhmpngaaDoor
open Go.RowKit

set_option maxHeartbeats 4000000 in
theorem fixed_1 (op dst an fn : Int) (ar : Bool) (ap : Option Addr) (al ac : Nat) (w : World) (h0 : op = 2 ∨ op = 3 ∨ op = 4 ∨ op = 5 ∨ op = 6 ∨ op = 7 ∨ op = 8 ∨ op = 9 ∨ op = 10 ∨ op = 11 ∨ op = 12 ∨ op = 13 ∨ op = 14 ∨ op = 15) :
    Calls Tryd.prog 72 #[.agg #[.int .i64 op, .int .i64 dst, .bool ar, .int .i64 an, .bool false, .int .i64 (1), .int .i64 fn, .slice ap al ac]] w fun e w' => InstPost (· = fixI op (1) dst an fn ar ap al ac) e ∧ Below w.heap.size w w' := by
  have h63 : bits .and .i64 (1) 63 = 1 := by rw [i64_and63]; rfl
  rcases h0 with rfl | rfl | rfl | rfl | rfl | rfl | rfl | rfl | rfl | rfl | rfl | rfl | rfl | rfl
  all_goals
    go_enter Tryd.func72, Tryd.ntmps72
    go_wp2_with fail
    go_region
    go_wp2_with (first | (go_at_call 69; refine (made1_any _ _ ?_ ?_ _ _ _ _ ?_ ?_).mono ?_; rotate_left 2; (focus (go_simp; rfl)); (focus (go_simp; rfl)); rintro e w2 ⟨rfl, rfl⟩) | (go_at_call 70; refine (num_any _ _).mono ?_; rintro e w1 ⟨rfl, rfl⟩))
    try (go_region_with (first | (go_at_call 70; refine (num_any _ _).mono ?_; rintro e w1 ⟨rfl, rfl⟩) | (go_at_call 69; refine (made1_any _ _ ?_ ?_ _ _ _ _ ?_ ?_).mono ?_; rotate_left 2; (focus (go_simp; rfl)); (focus (go_simp; rfl)); rintro e w2 ⟨rfl, rfl⟩)); go_wp2)
    all_goals (refine bodyPost_ret ?_ rfl ⟨InstPost.of _ rfl, ?_⟩; (focus (simp [results, Tryd.results72, go_sem, fixI, one1, Inst.cells])); repeat (first | with_reducible exact Below.refl _ _ | with_reducible exact HB3.out | with_reducible refine Below.drew ?_ | with_reducible refine below_drewN ?_ _ | with_reducible refine Below.setCell ?_ ?_ _ | with_reducible refine Below.alloc ?_ ?_ _ | with_reducible exact HB2.out | with_reducible exact HB1.out | with_reducible refine Below.trans ?_ (Below.mono hb3 ?_) | with_reducible refine Below.trans ?_ (Below.mono hb5 ?_) | with_reducible refine Below.trans ?_ (Below.mono hb4 ?_) | omega | (simp; omega) | simp))


end Go.Proofs.YtlalmbklhmpngaaDoor
namespace Go.Proofs.YtlalmbklhmpngaaDoor
open Go.RowKit

set_option maxHeartbeats 4000000 in
theorem fixed_m (op dst an fn : Int) (ar : Bool) (ap : Option Addr) (al ac : Nat) (w : World) (h0 : op = 2 ∨ op = 3 ∨ op = 4 ∨ op = 5 ∨ op = 6 ∨ op = 7 ∨ op = 8 ∨ op = 9 ∨ op = 10 ∨ op = 11 ∨ op = 12 ∨ op = 13 ∨ op = 14 ∨ op = 15) :
    Calls Tryd.prog 72 #[.agg #[.int .i64 op, .int .i64 dst, .bool ar, .int .i64 an, .bool false, .int .i64 (-1), .int .i64 fn, .slice ap al ac]] w fun e w' => InstPost (· = fixI op (-1) dst an fn ar ap al ac) e ∧ Below w.heap.size w w' := by
  have h63 : bits .and .i64 (-1) 63 = 63 := by rw [i64_and63]; rfl
  rcases h0 with rfl | rfl | rfl | rfl | rfl | rfl | rfl | rfl | rfl | rfl | rfl | rfl | rfl | rfl
  all_goals
    go_enter Tryd.func72, Tryd.ntmps72
    go_wp2_with fail
    go_region
    go_wp2_with (first | (go_at_call 69; refine (made1_any _ _ ?_ ?_ _ _ _ _ ?_ ?_).mono ?_; rotate_left 2; (focus (go_simp; rfl)); (focus (go_simp; rfl)); rintro e w2 ⟨rfl, rfl⟩) | (go_at_call 70; refine (num_any _ _).mono ?_; rintro e w1 ⟨rfl, rfl⟩))
    try (go_region_with (first | (go_at_call 70; refine (num_any _ _).mono ?_; rintro e w1 ⟨rfl, rfl⟩) | (go_at_call 69; refine (made1_any _ _ ?_ ?_ _ _ _ _ ?_ ?_).mono ?_; rotate_left 2; (focus (go_simp; rfl)); (focus (go_simp; rfl)); rintro e w2 ⟨rfl, rfl⟩)); go_wp2)
    all_goals (refine bodyPost_ret ?_ rfl ⟨InstPost.of _ rfl, ?_⟩; (focus (simp [results, Tryd.results72, go_sem, fixI, one1, Inst.cells])); repeat (first | with_reducible exact Below.refl _ _ | with_reducible exact HB3.out | with_reducible refine Below.drew ?_ | with_reducible refine below_drewN ?_ _ | with_reducible refine Below.setCell ?_ ?_ _ | with_reducible refine Below.alloc ?_ ?_ _ | with_reducible exact HB2.out | with_reducible exact HB1.out | with_reducible refine Below.trans ?_ (Below.mono hb3 ?_) | with_reducible refine Below.trans ?_ (Below.mono hb5 ?_) | with_reducible refine Below.trans ?_ (Below.mono hb4 ?_) | omega | (simp; omega) | simp))


end Go.Proofs.YtlalmbklhmpngaaDoor
namespace Go.Proofs.YtlalmbklhmpngaaDoor
open Go.RowKit

set_option maxHeartbeats 4000000 in
theorem fixed_s0 (op n dst an fn : Int) (ar : Bool) (ap : Option Addr) (al ac : Nat) (w : World) (h0 : op = 10 ∨ op = 11) (h1 : (n == 0) = false) (h2 : (n == 1) = false) (h3 : (n == -1) = false) (hs : n % 64 = 0) :
    Calls Tryd.prog 72 #[.agg #[.int .i64 op, .int .i64 dst, .bool ar, .int .i64 an, .bool false, .int .i64 (n), .int .i64 fn, .slice ap al ac]] w fun e w' => InstPost (· = fixI op (n) dst an fn ar ap al ac) e ∧ Below w.heap.size w w' := by
  have h63 : bits .and .i64 (n) 63 = 0 := by rw [i64_and63]; exact hs
  rcases h0 with rfl | rfl
  all_goals
    go_enter Tryd.func72, Tryd.ntmps72
    go_wp2_with fail
    go_region
    go_wp2_with (first | (go_at_call 69; refine (made1_any _ _ ?_ ?_ _ _ _ _ ?_ ?_).mono ?_; rotate_left 2; (focus (go_simp; rfl)); (focus (go_simp; rfl)); rintro e w2 ⟨rfl, rfl⟩) | (go_at_call 70; refine (num_any _ _).mono ?_; rintro e w1 ⟨rfl, rfl⟩))
    try (go_region_with (first | (go_at_call 70; refine (num_any _ _).mono ?_; rintro e w1 ⟨rfl, rfl⟩) | (go_at_call 69; refine (made1_any _ _ ?_ ?_ _ _ _ _ ?_ ?_).mono ?_; rotate_left 2; (focus (go_simp; rfl)); (focus (go_simp; rfl)); rintro e w2 ⟨rfl, rfl⟩)); go_wp2)
    all_goals (refine bodyPost_ret ?_ rfl ⟨InstPost.of _ rfl, ?_⟩; (focus (first | (simp [results, Tryd.results72, go_sem, fixI, one1, Inst.cells, *]; done) | (simp_all [results, Tryd.results72, go_sem, fixI, one1, Inst.cells]; done))); repeat (first | with_reducible exact Below.refl _ _ | with_reducible exact HB3.out | with_reducible refine Below.drew ?_ | with_reducible refine below_drewN ?_ _ | with_reducible refine Below.setCell ?_ ?_ _ | with_reducible refine Below.alloc ?_ ?_ _ | with_reducible exact HB2.out | with_reducible exact HB1.out | with_reducible refine Below.trans ?_ (Below.mono hb3 ?_) | with_reducible refine Below.trans ?_ (Below.mono hb5 ?_) | with_reducible refine Below.trans ?_ (Below.mono hb4 ?_) | omega | (simp; omega) | simp))

set_option maxHeartbeats 4000000 in
theorem fixed_s1 (op n dst an fn : Int) (ar : Bool) (ap : Option Addr) (al ac : Nat) (w : World) (h0 : op = 10 ∨ op = 11) (h1 : (n == 0) = false) (h2 : (n == 1) = false) (h3 : (n == -1) = false) (hs : (n % 64 == 0) = false) :
    Calls Tryd.prog 72 #[.agg #[.int .i64 op, .int .i64 dst, .bool ar, .int .i64 an, .bool false, .int .i64 (n), .int .i64 fn, .slice ap al ac]] w fun e w' => InstPost (· = fixI op (n) dst an fn ar ap al ac) e ∧ Below w.heap.size w w' := by
  have h63 : bits .and .i64 (n) 63 = n % 64 := by rw [i64_and63]
  rcases h0 with rfl | rfl
  all_goals
    go_enter Tryd.func72, Tryd.ntmps72
    go_wp2_with fail
    go_region
    go_wp2_with (first | (go_at_call 69; refine (made1_any _ _ ?_ ?_ _ _ _ _ ?_ ?_).mono ?_; rotate_left 2; (focus (go_simp; rfl)); (focus (go_simp; rfl)); rintro e w2 ⟨rfl, rfl⟩) | (go_at_call 70; refine (num_any _ _).mono ?_; rintro e w1 ⟨rfl, rfl⟩))
    try (go_region_with (first | (go_at_call 70; refine (num_any _ _).mono ?_; rintro e w1 ⟨rfl, rfl⟩) | (go_at_call 69; refine (made1_any _ _ ?_ ?_ _ _ _ _ ?_ ?_).mono ?_; rotate_left 2; (focus (go_simp; rfl)); (focus (go_simp; rfl)); rintro e w2 ⟨rfl, rfl⟩)); go_wp2)
    all_goals (refine bodyPost_ret ?_ rfl ⟨InstPost.of _ rfl, ?_⟩; (focus (first | (simp [results, Tryd.results72, go_sem, fixI, Inst.cells, *]; done) | (simp_all [results, Tryd.results72, go_sem, fixI, Inst.cells]; done))); repeat (first | with_reducible exact Below.refl _ _ | with_reducible exact HB3.out | with_reducible refine Below.drew ?_ | with_reducible refine below_drewN ?_ _ | with_reducible refine Below.setCell ?_ ?_ _ | with_reducible refine Below.alloc ?_ ?_ _ | with_reducible exact HB2.out | with_reducible exact HB1.out | with_reducible refine Below.trans ?_ (Below.mono hb3 ?_) | with_reducible refine Below.trans ?_ (Below.mono hb5 ?_) | with_reducible refine Below.trans ?_ (Below.mono hb4 ?_) | omega | (simp; omega) | simp))

set_option maxHeartbeats 4000000 in
theorem fixed_e (op n dst an fn : Int) (ar : Bool) (ap : Option Addr) (al ac : Nat) (w : World) (h0 : op = 2 ∨ op = 3 ∨ op = 4 ∨ op = 5 ∨ op = 6 ∨ op = 7 ∨ op = 8 ∨ op = 9 ∨ op = 12 ∨ op = 13 ∨ op = 14 ∨ op = 15) (h1 : (n == 0) = false) (h2 : (n == 1) = false) (h3 : (n == -1) = false) :
    Calls Tryd.prog 72 #[.agg #[.int .i64 op, .int .i64 dst, .bool ar, .int .i64 an, .bool false, .int .i64 (n), .int .i64 fn, .slice ap al ac]] w fun e w' => InstPost (· = fixI op (n) dst an fn ar ap al ac) e ∧ Below w.heap.size w w' := by
  have h63 : bits .and .i64 (n) 63 = n % 64 := by rw [i64_and63]
  rcases h0 with rfl | rfl | rfl | rfl | rfl | rfl | rfl | rfl | rfl | rfl | rfl | rfl
  all_goals
    go_enter Tryd.func72, Tryd.ntmps72
    go_wp2_with fail
    go_region
    go_wp2_with (first | (go_at_call 69; refine (made1_any _ _ ?_ ?_ _ _ _ _ ?_ ?_).mono ?_; rotate_left 2; (focus (go_simp; rfl)); (focus (go_simp; rfl)); rintro e w2 ⟨rfl, rfl⟩) | (go_at_call 70; refine (num_any _ _).mono ?_; rintro e w1 ⟨rfl, rfl⟩))
    try (go_region_with (first | (go_at_call 70; refine (num_any _ _).mono ?_; rintro e w1 ⟨rfl, rfl⟩) | (go_at_call 69; refine (made1_any _ _ ?_ ?_ _ _ _ _ ?_ ?_).mono ?_; rotate_left 2; (focus (go_simp; rfl)); (focus (go_simp; rfl)); rintro e w2 ⟨rfl, rfl⟩)); go_wp2)
    all_goals (refine bodyPost_ret ?_ rfl ⟨InstPost.of _ rfl, ?_⟩; (focus (first | (simp [results, Tryd.results72, go_sem, fixI, Inst.cells, *]; done) | (simp_all [results, Tryd.results72, go_sem, fixI, Inst.cells]; done))); repeat (first | with_reducible exact Below.refl _ _ | with_reducible exact HB3.out | with_reducible refine Below.drew ?_ | with_reducible refine below_drewN ?_ _ | with_reducible refine Below.setCell ?_ ?_ _ | with_reducible refine Below.alloc ?_ ?_ _ | with_reducible exact HB2.out | with_reducible exact HB1.out | with_reducible refine Below.trans ?_ (Below.mono hb3 ?_) | with_reducible refine Below.trans ?_ (Below.mono hb5 ?_) | with_reducible refine Below.trans ?_ (Below.mono hb4 ?_) | omega | (simp; omega) | simp))

end Go.Proofs.YtlalmbklhmpngaaDoor
