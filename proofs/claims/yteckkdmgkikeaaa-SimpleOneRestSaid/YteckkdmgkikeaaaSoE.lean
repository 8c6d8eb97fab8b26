/-
  The contracts of core.Shapes and of the reference's small functions: Two, copyOf, simpleBehind.
-/
import Derived.Test.YteckkdmgkikeaaaSoA
import Derived.WalkKit
import Derived.WalkSpells
import Derived.WalkLawsBesides
namespace Go.Proofs.Yteckkdmgkikeaaa
open Go.RowKit

set_option maxHeartbeats 400000 in
theorem shapes_two (op : Int) (w : World) (h : 2 ≤ op ∧ op ≤ 15) :
    Calls Try.prog 15 #[.int .i64 op] w fun e w' => e = .returned (.agg #[.bool true, .bool true, .bool true]) ∧ w' = w.alloc (.cells #[.bool true, .bool true, .bool true] 41) := by
  have h1 : (op == 1) = false := by rw [beq_eq_false_iff_ne]; omega
  have h2 : (op == 16) = false := by rw [beq_eq_false_iff_ne]; omega
  have h3 : (op == 17) = false := by rw [beq_eq_false_iff_ne]; omega
  have h4 : (op == 18) = false := by rw [beq_eq_false_iff_ne]; omega
  go_enter Try.func15, Try.ntmps15
  go_wp2
  all_goals (refine bodyPost_ret ?_ rfl ⟨rfl, rfl⟩; simp [results, Try.results15, go_sem])
set_option maxHeartbeats 400000 in
theorem shapes_one (op : Int) (w : World) (h : op = 16 ∨ op = 17) :
    Calls Try.prog 15 #[.int .i64 op] w fun e w' => e = .returned (.agg #[.bool true, .bool true, .bool false]) ∧ w' = w.alloc (.cells #[.bool true, .bool true, .bool false] 41) := by
  rcases h with rfl | rfl
  all_goals
    go_enter Try.func15, Try.ntmps15
    go_wp2
    all_goals (refine bodyPost_ret ?_ rfl ⟨rfl, rfl⟩; simp [results, Try.results15, go_sem])

theorem run_fieldB (a b c : Bool) (w : World) : (Instr.field 41 (.agg #[.bool a, .bool b, .bool c]) 2).run Try.prog w = .ok (.bool c) w := by kernel_rfl

set_option maxHeartbeats 1000000 in
theorem rtwo_any (op a b : Int) (hop : 1 ≤ op ∧ op ≤ 17) (ha : I64 a) (w : World) :
    Calls Try.prog 11 #[.int .i64 op, .int .i64 a, .int .i64 b] w fun e w' => e = .returned (.tuple #[.int .i64 (twoL op a b).1, .bool (twoL op a b).2]) ∧ w = w' := by
  have h63 := i64_and63 b
  have h64 : (b % 64 < 0) = False := by simp; omega
  have hshl := fun k => shift_shl .i64 k a (b % 64) (by omega) (by show b % 64 ≤ ((64 : Nat) : Int); omega)
  have hshr := fun k => shift_shr .i64 k a (b % 64) (by omega) (by show b % 64 ≤ ((64 : Nat) : Int); omega)
  have hwr : ∀ n, IntKind.i64.wrap n = wrap64 n := IntWalk.i64_left
  have hwu : IntKind.u64.wrap (b % 64) = b % 64 := by rw [IntKind.wrap_u64]; omega
  have hnot : wrap64 (-1 - a) = -1 - a := IntWalk.wrap64_in _ (by unfold I64 at ha; omega)
  have hsg : IntKind.i64.signed = true := rfl
  clear ha
  have hops : op = 1 ∨ op = 2 ∨ op = 3 ∨ op = 4 ∨ op = 7 ∨ op = 8 ∨ op = 9 ∨ op = 10 ∨ op = 11 ∨ op = 12 ∨ op = 13 ∨ op = 14 ∨ op = 15 ∨ op = 16 ∨ op = 17 ∨ op = 5 ∨ op = 6 := by omega
  clear hop
  rcases hops with rfl | rfl | rfl | rfl | rfl | rfl | rfl | rfl | rfl | rfl | rfl | rfl | rfl | rfl | rfl | h56
  case inr.inr.inr.inr.inr.inr.inr.inr.inr.inr.inr.inr.inr.inr.inr =>
    by_cases hb : b = 0
    · subst hb
      rcases h56 with rfl | rfl
      all_goals
        go_enter Try.func11, Try.ntmps11
        go_wp2
        go_ret2
        exact ⟨by simp [twoL], rfl⟩
    · have hb2 : (b == 0) = false := by simpa using hb
      rcases h56 with rfl | rfl
      all_goals
        go_enter Try.func11, Try.ntmps11
        go_wp2
        go_ret2
        exact ⟨by simp [twoL, *], rfl⟩
  all_goals
    go_enter Try.func11, Try.ntmps11
    go_wp2
  all_goals go_ret2
  all_goals (refine ⟨?_, rfl⟩; first | (simp [twoL, *]; done) | simp_all [twoL])

set_option maxHeartbeats 400000 in
theorem copyOf_any (dst n : Int) (r : Bool) (w : World) :
    Calls Try.prog 12 #[.int .i64 dst, .agg #[.bool r, .int .i64 n]] w fun e w' => e = .returned (.agg #[.int .i64 1, .int .i64 dst, .bool r, .int .i64 n, .bool false, .int .i64 0, .int .i64 0, .slice none 0 0]) ∧ w' = (w.alloc (.cells #[.bool r, .int .i64 n] 23)).alloc (.cells #[.int .i64 1, .int .i64 dst, .bool r, .int .i64 n, .bool false, .int .i64 0, .int .i64 0, .slice none 0 0] 26) := by
  go_enter Try.func12, Try.ntmps12
  go_wp2
  all_goals (refine bodyPost_ret ?_ rfl ⟨rfl, rfl⟩; simp [results, Try.results12, go_sem])
set_option maxHeartbeats 400000 in
theorem fault_any (c a : Int) (w : World) :
    Calls Try.prog 6 #[.int .i64 c, .int .i64 a] w fun e w' => e = .returned (.agg #[.int .i64 c, .int .i64 a]) ∧ w' = w.alloc (.cells #[.int .i64 c, .int .i64 a] 28) := by
  go_enter Try.func6, Try.ntmps6
  go_wp2
  refine bodyPost_ret ?_ rfl ⟨rfl, rfl⟩
  simp [results, Try.results6, go_sem]
end Go.Proofs.Yteckkdmgkikeaaa
