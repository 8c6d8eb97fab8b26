/-
  The contracts of the small functions that simple.One reaches, each walked once.
-/
import Derived.Test.YteckkdmgkikeaaaRows
import Derived.Test.YteckkdmgkikeaaaWrd
import Derived.WalkKit
import Derived.WalkSpells
import Derived.WalkLawsBesides
namespace Go.Proofs.Yteckkdmgkikeaaa
open Go.RowKit

set_option maxHeartbeats 400000 in
theorem num_any (n : Int) (w : World) :
    Calls Try.prog 18 #[.int .i64 n] w fun e w' => e = .returned (.agg #[.bool false, .int .i64 n]) ∧ w' = w.alloc (.cells #[.bool false, .int .i64 n] 23) := by
  go_enter Try.func18, Try.ntmps18
  go_wp2
  exact bodyPost_ret (v := .agg #[.bool false, .int .i64 n]) (by simp [results, Try.results18, go_sem]) rfl ⟨rfl, rfl⟩

def recB (op : Int) : Bool := decide (1 ≤ op ∧ op ≤ 17)
set_option maxHeartbeats 400000 in
theorem reckons_any (op : Int) (w : World) :
    Calls Try.prog 14 #[.int .i64 op] w fun e w' => e = .returned (.bool (recB op)) ∧ w = w' := by
  by_cases h1 : 1 ≤ op
  · by_cases h2 : op ≤ 17
    all_goals
      go_enter Try.func14, Try.ntmps14
      go_wp2
      go_ret
      exact ⟨by simp [recB]; omega, rfl⟩
  · go_enter Try.func14, Try.ntmps14
    go_wp2
    go_ret
    exact ⟨by simp [recB]; omega, rfl⟩

def turnB (op : Int) : Bool := op == 2 || op == 4 || op == 7 || op == 8 || op == 9 || op == 12 || op == 13
set_option maxHeartbeats 400000 in
theorem turns_any (op : Int) (w : World) :
    Calls Try.prog 19 #[.int .i64 op] w fun e w' => e = .returned (.bool (turnB op)) ∧ w = w' := by
  go_enter Try.func19, Try.ntmps19
  go_wp2
  all_goals
    go_ret
    exact ⟨by simp [turnB, *], rfl⟩
set_option maxHeartbeats 400000 in
theorem yes_any (b : Bool) (w : World) :
    Calls Try.prog 23 #[.bool b] w fun e w' => e = .returned (.int .i64 (if b then 1 else 0)) ∧ w = w' := by
  cases b
  all_goals
    go_enter Try.func23, Try.ntmps23
    go_wp2
    go_ret
    exact ⟨rfl, rfl⟩

/-- an instruction as plain data; its arguments are whatever value stands there -/
structure Inst where
  op : Int
  dst : Int
  ar : Bool
  an : Int
  br : Bool
  bn : Int
  fn : Int
  ap : Option Addr
  al : Nat
  ac : Nat
def Inst.cells (i : Inst) : Array Value := #[.int .i64 i.op, .int .i64 i.dst, .bool i.ar, .int .i64 i.an, .bool i.br, .int .i64 i.bn, .int .i64 i.fn, .slice i.ap i.al i.ac]
/-- the call hands back an instruction that meets P -/
def InstPost (P : Inst → Prop) (e : Ending) : Prop := ∃ (o d : Int) (r : Bool) (n : Int) (r' : Bool) (n' f : Int) (p : Option Addr) (l c : Nat),
  e = .returned (.agg #[.int .i64 o, .int .i64 d, .bool r, .int .i64 n, .bool r', .int .i64 n', .int .i64 f, .slice p l c]) ∧ Hid (P ⟨o, d, r, n, r', n', f, p, l, c⟩)
theorem InstPost.of {e : Ending} (i : Inst) (h : e = .returned (.agg i.cells)) : InstPost (· = i) e :=
  ⟨i.op, i.dst, i.ar, i.an, i.br, i.bn, i.fn, i.ap, i.al, i.ac, h, rfl⟩
/-- an instruction of a kind with one value -/
def one1 (op dst : Int) (r : Bool) (n : Int) : Inst := ⟨op, dst, r, n, false, 0, 0, none, 0, 0⟩

set_option maxHeartbeats 400000 in
theorem made1_any (op dst n : Int) (r : Bool) (b o c : Nat) (w : World) (h0 : w.cell? ⟨b, o, none⟩ = some (.bool r)) (h1 : w.cell? ⟨b, o + 1, none⟩ = some (.int .i64 n)) :
    Calls Try.prog 17 #[.int .i64 op, .int .i64 dst, .slice (some ⟨b, o, none⟩) 1 c] w fun e w' => e = .returned (.agg #[.int .i64 op, .int .i64 dst, .bool r, .int .i64 n, .bool false, .int .i64 0, .int .i64 0, .slice none 0 0]) ∧ w' = (w.alloc (.cells #[.int .i64 op, .int .i64 dst, .bool r, .int .i64 n, .bool false, .int .i64 0, .int .i64 0, .slice none 0 0] 26)).alloc (.cells #[.int .i64 op, .int .i64 dst, .bool r, .int .i64 n, .bool false, .int .i64 0, .int .i64 0, .slice none 0 0] 26) := by
  have hb := lt_of_cell h0
  go_enter Try.func17, Try.ntmps17
  go_wp2
  exact bodyPost_ret (v := .agg #[.int .i64 op, .int .i64 dst, .bool r, .int .i64 n, .bool false, .int .i64 0, .int .i64 0, .slice none 0 0]) (by simp [results, Try.results17, go_sem]) rfl ⟨rfl, rfl⟩
set_option maxHeartbeats 400000 in
theorem made2_any (op dst n n' : Int) (r r' : Bool) (b o c : Nat) (w : World) (h0 : w.cell? ⟨b, o, none⟩ = some (.bool r)) (h1 : w.cell? ⟨b, o + 1, none⟩ = some (.int .i64 n)) (h2 : w.cell? ⟨b, o + 2, none⟩ = some (.bool r')) (h3 : w.cell? ⟨b, o + 3, none⟩ = some (.int .i64 n')) :
    Calls Try.prog 17 #[.int .i64 op, .int .i64 dst, .slice (some ⟨b, o, none⟩) 2 c] w fun e w' => e = .returned (.agg #[.int .i64 op, .int .i64 dst, .bool r, .int .i64 n, .bool r', .int .i64 n', .int .i64 0, .slice none 0 0]) ∧ w' = (w.alloc (.cells #[.int .i64 op, .int .i64 dst, .bool r, .int .i64 n, .bool r', .int .i64 n', .int .i64 0, .slice none 0 0] 26)).alloc (.cells #[.int .i64 op, .int .i64 dst, .bool r, .int .i64 n, .bool r', .int .i64 n', .int .i64 0, .slice none 0 0] 26) := by
  have hb := lt_of_cell h0
  go_enter Try.func17, Try.ntmps17
  go_wp2
  exact bodyPost_ret (v := .agg #[.int .i64 op, .int .i64 dst, .bool r, .int .i64 n, .bool r', .int .i64 n', .int .i64 0, .slice none 0 0]) (by simp [results, Try.results17, go_sem]) rfl ⟨rfl, rfl⟩

end Go.Proofs.Yteckkdmgkikeaaa
