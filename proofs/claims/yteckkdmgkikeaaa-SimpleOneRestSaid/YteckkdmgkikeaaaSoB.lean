/-
  The contract of core.Two: what an arithmetic instruction makes of two numbers.
-/
import Derived.Test.YteckkdmgkikeaaaSoA
import Derived.WalkKit
import Derived.WalkSpells
import Derived.WalkLawsBesides
namespace Go.Proofs.Yteckkdmgkikeaaa
open Go.RowKit

theorem not_i64 (a : Int) (ha : I64 a) : bits .xor .i64 (-1) a = -1 - a := by
  unfold I64 at ha
  have h : (BitVec.ofInt 64 (-1) ^^^ BitVec.ofInt 64 a) = BitVec.ofInt 64 (-1 - a) := by
    rw [show BitVec.ofInt 64 (-1) = BitVec.allOnes 64 from by decide, BitVec.allOnes_xor]
    apply BitVec.eq_of_toNat_eq
    rw [BitVec.toNat_not]
    simp only [BitVec.toNat_ofInt]
    omega
  show IntKind.i64.wrap ((BitVec.ofInt 64 (-1) ^^^ BitVec.ofInt 64 a).toNat : Nat) = _
  rw [h, IntKind.wrap_i64, BitVec.toNat_ofInt]
  omega

set_option maxHeartbeats 1000000 in
theorem ctwo_any (op a b : Int) (hop : 1 ≤ op ∧ op ≤ 17) (ha : I64 a) (w : World) :
    Calls Try.prog 16 #[.int .i64 op, .int .i64 a, .int .i64 b] w fun e w' => e = .returned (.tuple #[.int .i64 (twoL op a b).1, .bool (twoL op a b).2]) ∧ w = w' := by
  have h63 := i64_and63 b
  have h64 : (b % 64 < 0) = False := by simp; omega
  have hshl := shift_shl .i64 .i64 a (b % 64) (by omega) (by show b % 64 ≤ ((64 : Nat) : Int); omega)
  have hshr := shift_shr .i64 .i64 a (b % 64) (by omega) (by show b % 64 ≤ ((64 : Nat) : Int); omega)
  have hwr : ∀ n, IntKind.i64.wrap n = wrap64 n := IntWalk.i64_left
  have hnot := not_i64 a ha
  have hsg : IntKind.i64.signed = true := rfl
  clear ha
  have hops : op = 1 ∨ op = 2 ∨ op = 3 ∨ op = 4 ∨ op = 7 ∨ op = 8 ∨ op = 9 ∨ op = 10 ∨ op = 11 ∨ op = 12 ∨ op = 13 ∨ op = 14 ∨ op = 15 ∨ op = 16 ∨ op = 17 ∨ op = 5 ∨ op = 6 := by omega
  clear hop
  rcases hops with rfl | rfl | rfl | rfl | rfl | rfl | rfl | rfl | rfl | rfl | rfl | rfl | rfl | rfl | rfl | h56
  case inr.inr.inr.inr.inr.inr.inr.inr.inr.inr.inr.inr.inr.inr.inr =>
    by_cases hb : b = 0
    · subst hb
      rcases h56 with rfl | rfl
      all_goals
        go_enter Try.func16, Try.ntmps16
        go_wp2
        go_ret2
        exact ⟨by simp [twoL], rfl⟩
    · have hb2 : (b == 0) = false := by simpa using hb
      rcases h56 with rfl | rfl
      all_goals
        go_enter Try.func16, Try.ntmps16
        go_wp2
        go_ret2
        exact ⟨by simp [twoL, *], rfl⟩
  all_goals
    go_enter Try.func16, Try.ntmps16
    go_wp2_with (first | (go_at_call 23; refine (yes_any _ _).mono ?_; rintro e w' ⟨rfl, rfl⟩))
  all_goals go_ret2
  all_goals exact ⟨by simp [twoL, *], rfl⟩

end Go.Proofs.Yteckkdmgkikeaaa
