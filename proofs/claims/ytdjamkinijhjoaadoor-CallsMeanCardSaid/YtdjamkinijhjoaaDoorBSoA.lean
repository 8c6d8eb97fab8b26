/-
  The contracts of the small functions that simple.One reaches, each walked once.
The contract of core.Two: what an arithmetic instruction makes of two numbers.
-/
import Derived.Test.YtdjamkinijhjoaaDoorRows
import Derived.Test.YtdjamkinijhjoaaDoorWrd
import Derived.WalkKit
import Derived.WalkSpells
import Derived.WalkLawsBesides
namespace Go.Proofs.YtdjamkinijhjoaaDoor
open Go.RowKit

def recB (op : Int) : Bool := decide (1 ≤ op ∧ op ≤ 17)
def turnB (op : Int) : Bool := op == 2 || op == 4 || op == 7 || op == 8 || op == 9 || op == 12 || op == 13
set_option maxHeartbeats 400000 in
theorem yes_any (b : Bool) (w : World) :
    Calls Tryd.prog 156 #[.bool b] w fun e w' => e = .returned (.int .i64 (if b then 1 else 0)) ∧ w = w' := by
  cases b
  all_goals
    go_enter Tryd.func156, Tryd.ntmps156
    go_wp2
    go_ret
    exact ⟨rfl, rfl⟩

/-- an instruction as plain data; its arguments are whatever value stands there -/
structure Inst where
  op : Int
  dst : Int
  ar : Bool
  an : Int
  br : Bool
  bn : Int
  fn : Int
  ap : Option Addr
  al : Nat
  ac : Nat
def Inst.cells (i : Inst) : Array Value := #[.int .i64 i.op, .int .i64 i.dst, .bool i.ar, .int .i64 i.an, .bool i.br, .int .i64 i.bn, .int .i64 i.fn, .slice i.ap i.al i.ac]
/-- the call hands back an instruction that meets P -/
def InstPost (P : Inst → Prop) (e : Ending) : Prop := ∃ (o d : Int) (r : Bool) (n : Int) (r' : Bool) (n' f : Int) (p : Option Addr) (l c : Nat),
  e = .returned (.agg #[.int .i64 o, .int .i64 d, .bool r, .int .i64 n, .bool r', .int .i64 n', .int .i64 f, .slice p l c]) ∧ Hid (P ⟨o, d, r, n, r', n', f, p, l, c⟩)
theorem InstPost.of {e : Ending} (i : Inst) (h : e = .returned (.agg i.cells)) : InstPost (· = i) e :=
  ⟨i.op, i.dst, i.ar, i.an, i.br, i.bn, i.fn, i.ap, i.al, i.ac, h, rfl⟩
/-- an instruction of a kind with one value -/
def one1 (op dst : Int) (r : Bool) (n : Int) : Inst := ⟨op, dst, r, n, false, 0, 0, none, 0, 0⟩

end Go.Proofs.YtdjamkinijhjoaaDoor
namespace Go.Proofs.YtdjamkinijhjoaaDoor
open Go.RowKit

theorem not_i64 (a : Int) (ha : I64 a) : bits .xor .i64 (-1) a = -1 - a := by
  unfold I64 at ha
  have h : (BitVec.ofInt 64 (-1) ^^^ BitVec.ofInt 64 a) = BitVec.ofInt 64 (-1 - a) := by
    rw [show BitVec.ofInt 64 (-1) = BitVec.allOnes 64 from by decide, BitVec.allOnes_xor]
    apply BitVec.eq_of_toNat_eq
    rw [BitVec.toNat_not]
    simp only [BitVec.toNat_ofInt]
    omega
  show IntKind.i64.wrap ((BitVec.ofInt 64 (-1) ^^^ BitVec.ofInt 64 a).toNat : Nat) = _
  rw [h, IntKind.wrap_i64, BitVec.toNat_ofInt]
  omega

set_option maxHeartbeats 1000000 in
theorem ctwo_any (op a b : Int) (hop : 1 ≤ op ∧ op ≤ 17) (ha : I64 a) (w : World) :
    Calls Tryd.prog 143 #[.int .i64 op, .int .i64 a, .int .i64 b] w fun e w' => e = .returned (.tuple #[.int .i64 (twoL op a b).1, .bool (twoL op a b).2]) ∧ w = w' := by
  have h63 := i64_and63 b
  have h64 : (b % 64 < 0) = False := by simp; omega
  have hshl := shift_shl .i64 .i64 a (b % 64) (by omega) (by show b % 64 ≤ ((64 : Nat) : Int); omega)
  have hshr := shift_shr .i64 .i64 a (b % 64) (by omega) (by show b % 64 ≤ ((64 : Nat) : Int); omega)
  have hwr : ∀ n, IntKind.i64.wrap n = wrap64 n := IntWalk.i64_left
  have hnot := not_i64 a ha
  have hsg : IntKind.i64.signed = true := rfl
  clear ha
  have hops : op = 1 ∨ op = 2 ∨ op = 3 ∨ op = 4 ∨ op = 7 ∨ op = 8 ∨ op = 9 ∨ op = 10 ∨ op = 11 ∨ op = 12 ∨ op = 13 ∨ op = 14 ∨ op = 15 ∨ op = 16 ∨ op = 17 ∨ op = 5 ∨ op = 6 := by omega
  clear hop
  rcases hops with rfl | rfl | rfl | rfl | rfl | rfl | rfl | rfl | rfl | rfl | rfl | rfl | rfl | rfl | rfl | h56
  case inr.inr.inr.inr.inr.inr.inr.inr.inr.inr.inr.inr.inr.inr.inr =>
    by_cases hb : b = 0
    · subst hb
      rcases h56 with rfl | rfl
      all_goals
        go_enter Tryd.func143, Tryd.ntmps143
        go_wp2
        go_ret2
        exact ⟨by simp [twoL], rfl⟩
    · have hb2 : (b == 0) = false := by simpa using hb
      rcases h56 with rfl | rfl
      all_goals
        go_enter Tryd.func143, Tryd.ntmps143
        go_wp2
        go_ret2
        exact ⟨by simp [twoL, *], rfl⟩
  all_goals
    go_enter Tryd.func143, Tryd.ntmps143
    go_wp2_with (first | (go_at_call 156; refine (yes_any _ _).mono ?_; rintro e w' ⟨rfl, rfl⟩))
  all_goals go_ret2
  all_goals exact ⟨by simp [twoL, *], rfl⟩

end Go.Proofs.YtdjamkinijhjoaaDoor
