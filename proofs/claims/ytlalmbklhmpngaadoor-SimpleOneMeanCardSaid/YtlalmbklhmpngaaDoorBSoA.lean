/-
  The contracts of the small functions that simple.One reaches, each walked once.
The contract of core.Two: what an arithmetic instruction makes of two numbers.
-/
import Derived.Test.YtlalmbklhmpngaaDoorRows
import Derived.Test.YtlalmbklhmpngaaDoorWrd
import Derived.WalkKit
import Derived.WalkSpells
import Derived.WalkLawsBesides
namespace Go.Proofs.YtlalmbklhmpngaaDoor
open Go.RowKit

set_option maxHeartbeats 400000 in
theorem num_any (n : Int) (w : World) :
    Calls Tryd.prog 70 #[.int .i64 n] w fun e w' => e = .returned (.agg #[.bool false, .int .i64 n]) ∧ w' = w.alloc (.cells #[.bool false, .int .i64 n] 23) := by
  go_enter Tryd.func70, Tryd.ntmps70
  go_wp2
  exact bodyPost_ret (v := .agg #[.bool false, .int .i64 n]) (by simp [results, Tryd.results70, go_sem]) rfl ⟨rfl, rfl⟩

def recB (op : Int) : Bool := decide (1 ≤ op ∧ op ≤ 17)
set_option maxHeartbeats 400000 in
theorem reckons_any (op : Int) (w : World) :
    Calls Tryd.prog 66 #[.int .i64 op] w fun e w' => e = .returned (.bool (recB op)) ∧ w = w' := by
  by_cases h1 : 1 ≤ op
  · by_cases h2 : op ≤ 17
    all_goals
      go_enter Tryd.func66, Tryd.ntmps66
      go_wp2
      go_ret
      exact ⟨by simp [recB]; omega, rfl⟩
  · go_enter Tryd.func66, Tryd.ntmps66
    go_wp2
    go_ret
    exact ⟨by simp [recB]; omega, rfl⟩

def turnB (op : Int) : Bool := op == 2 || op == 4 || op == 7 || op == 8 || op == 9 || op == 12 || op == 13
set_option maxHeartbeats 400000 in
theorem turns_any (op : Int) (w : World) :
    Calls Tryd.prog 71 #[.int .i64 op] w fun e w' => e = .returned (.bool (turnB op)) ∧ w = w' := by
  go_enter Tryd.func71, Tryd.ntmps71
  go_wp2
  all_goals
    go_ret
    exact ⟨by simp [turnB, *], rfl⟩
set_option maxHeartbeats 400000 in
theorem yes_any (b : Bool) (w : World) :
    Calls Tryd.prog 100 #[.bool b] w fun e w' => e = .returned (.int .i64 (if b then 1 else 0)) ∧ w = w' := by
  cases b
  all_goals
    go_enter Tryd.func100, Tryd.ntmps100
    go_wp2
    go_ret
    exact ⟨rfl, rfl⟩

/-- an instruction as plain data; its arguments are whatever value stands there -/
structure Inst where
  op : Int
  dst : Int
  ar : Bool
  an : Int
  br : Bool
  bn : Int
  fn : Int
  ap : Option Addr
  al : Nat
  ac : Nat
def Inst.cells (i : Inst) : Array Value := #[.int .i64 i.op, .int .i64 i.dst, .bool i.ar, .int .i64 i.an, .bool i.br, .int .i64 i.bn, .int .i64 i.fn, .slice i.ap i.al i.ac]
/-- the call hands back an instruction that meets P -/
def InstPost (P : Inst → Prop) (e : Ending) : Prop := ∃ (o d : Int) (r : Bool) (n : Int) (r' : Bool) (n' f : Int) (p : Option Addr) (l c : Nat),
  e = .returned (.agg #[.int .i64 o, .int .i64 d, .bool r, .int .i64 n, .bool r', .int .i64 n', .int .i64 f, .slice p l c]) ∧ Hid (P ⟨o, d, r, n, r', n', f, p, l, c⟩)
theorem InstPost.of {e : Ending} (i : Inst) (h : e = .returned (.agg i.cells)) : InstPost (· = i) e :=
  ⟨i.op, i.dst, i.ar, i.an, i.br, i.bn, i.fn, i.ap, i.al, i.ac, h, rfl⟩
/-- an instruction of a kind with one value -/
def one1 (op dst : Int) (r : Bool) (n : Int) : Inst := ⟨op, dst, r, n, false, 0, 0, none, 0, 0⟩

set_option maxHeartbeats 400000 in
theorem made1_any (op dst n : Int) (r : Bool) (b o c : Nat) (w : World) (h0 : w.cell? ⟨b, o, none⟩ = some (.bool r)) (h1 : w.cell? ⟨b, o + 1, none⟩ = some (.int .i64 n)) :
    Calls Tryd.prog 69 #[.int .i64 op, .int .i64 dst, .slice (some ⟨b, o, none⟩) 1 c] w fun e w' => e = .returned (.agg #[.int .i64 op, .int .i64 dst, .bool r, .int .i64 n, .bool false, .int .i64 0, .int .i64 0, .slice none 0 0]) ∧ w' = (w.alloc (.cells #[.int .i64 op, .int .i64 dst, .bool r, .int .i64 n, .bool false, .int .i64 0, .int .i64 0, .slice none 0 0] 26)).alloc (.cells #[.int .i64 op, .int .i64 dst, .bool r, .int .i64 n, .bool false, .int .i64 0, .int .i64 0, .slice none 0 0] 26) := by
  have hb := lt_of_cell h0
  go_enter Tryd.func69, Tryd.ntmps69
  go_wp2
  exact bodyPost_ret (v := .agg #[.int .i64 op, .int .i64 dst, .bool r, .int .i64 n, .bool false, .int .i64 0, .int .i64 0, .slice none 0 0]) (by simp [results, Tryd.results69, go_sem]) rfl ⟨rfl, rfl⟩
set_option maxHeartbeats 400000 in
theorem made2_any (op dst n n' : Int) (r r' : Bool) (b o c : Nat) (w : World) (h0 : w.cell? ⟨b, o, none⟩ = some (.bool r)) (h1 : w.cell? ⟨b, o + 1, none⟩ = some (.int .i64 n)) (h2 : w.cell? ⟨b, o + 2, none⟩ = some (.bool r')) (h3 : w.cell? ⟨b, o + 3, none⟩ = some (.int .i64 n')) :
    Calls Tryd.prog 69 #[.int .i64 op, .int .i64 dst, .slice (some ⟨b, o, none⟩) 2 c] w fun e w' => e = .returned (.agg #[.int .i64 op, .int .i64 dst, .bool r, .int .i64 n, .bool r', .int .i64 n', .int .i64 0, .slice none 0 0]) ∧ w' = (w.alloc (.cells #[.int .i64 op, .int .i64 dst, .bool r, .int .i64 n, .bool r', .int .i64 n', .int .i64 0, .slice none 0 0] 26)).alloc (.cells #[.int .i64 op, .int .i64 dst, .bool r, .int .i64 n, .bool r', .int .i64 n', .int .i64 0, .slice none 0 0] 26) := by
  have hb := lt_of_cell h0
  go_enter Tryd.func69, Tryd.ntmps69
  go_wp2
  exact bodyPost_ret (v := .agg #[.int .i64 op, .int .i64 dst, .bool r, .int .i64 n, .bool r', .int .i64 n', .int .i64 0, .slice none 0 0]) (by simp [results, Tryd.results69, go_sem]) rfl ⟨rfl, rfl⟩

end Go.Proofs.YtlalmbklhmpngaaDoor
namespace Go.Proofs.YtlalmbklhmpngaaDoor
open Go.RowKit

theorem not_i64 (a : Int) (ha : I64 a) : bits .xor .i64 (-1) a = -1 - a := by
  unfold I64 at ha
  have h : (BitVec.ofInt 64 (-1) ^^^ BitVec.ofInt 64 a) = BitVec.ofInt 64 (-1 - a) := by
    rw [show BitVec.ofInt 64 (-1) = BitVec.allOnes 64 from by decide, BitVec.allOnes_xor]
    apply BitVec.eq_of_toNat_eq
    rw [BitVec.toNat_not]
    simp only [BitVec.toNat_ofInt]
    omega
  show IntKind.i64.wrap ((BitVec.ofInt 64 (-1) ^^^ BitVec.ofInt 64 a).toNat : Nat) = _
  rw [h, IntKind.wrap_i64, BitVec.toNat_ofInt]
  omega

set_option maxHeartbeats 1000000 in
theorem ctwo_any (op a b : Int) (hop : 1 ≤ op ∧ op ≤ 17) (ha : I64 a) (w : World) :
    Calls Tryd.prog 68 #[.int .i64 op, .int .i64 a, .int .i64 b] w fun e w' => e = .returned (.tuple #[.int .i64 (twoL op a b).1, .bool (twoL op a b).2]) ∧ w = w' := by
  have h63 := i64_and63 b
  have h64 : (b % 64 < 0) = False := by simp; omega
  have hshl := shift_shl .i64 .i64 a (b % 64) (by omega) (by show b % 64 ≤ ((64 : Nat) : Int); omega)
  have hshr := shift_shr .i64 .i64 a (b % 64) (by omega) (by show b % 64 ≤ ((64 : Nat) : Int); omega)
  have hwr : ∀ n, IntKind.i64.wrap n = wrap64 n := IntWalk.i64_left
  have hnot := not_i64 a ha
  have hsg : IntKind.i64.signed = true := rfl
  clear ha
  have hops : op = 1 ∨ op = 2 ∨ op = 3 ∨ op = 4 ∨ op = 7 ∨ op = 8 ∨ op = 9 ∨ op = 10 ∨ op = 11 ∨ op = 12 ∨ op = 13 ∨ op = 14 ∨ op = 15 ∨ op = 16 ∨ op = 17 ∨ op = 5 ∨ op = 6 := by omega
  clear hop
  rcases hops with rfl | rfl | rfl | rfl | rfl | rfl | rfl | rfl | rfl | rfl | rfl | rfl | rfl | rfl | rfl | h56
  case inr.inr.inr.inr.inr.inr.inr.inr.inr.inr.inr.inr.inr.inr.inr =>
    by_cases hb : b = 0
    · subst hb
      rcases h56 with rfl | rfl
      all_goals
        go_enter Tryd.func68, Tryd.ntmps68
        go_wp2
        go_ret2
        exact ⟨by simp [twoL], rfl⟩
    · have hb2 : (b == 0) = false := by simpa using hb
      rcases h56 with rfl | rfl
      all_goals
        go_enter Tryd.func68, Tryd.ntmps68
        go_wp2
        go_ret2
        exact ⟨by simp [twoL, *], rfl⟩
  all_goals
    go_enter Tryd.func68, Tryd.ntmps68
    go_wp2_with (first | (go_at_call 100; refine (yes_any _ _).mono ?_; rintro e w' ⟨rfl, rfl⟩))
  all_goals go_ret2
  all_goals exact ⟨by simp [twoL, *], rfl⟩

end Go.Proofs.YtlalmbklhmpngaaDoor
