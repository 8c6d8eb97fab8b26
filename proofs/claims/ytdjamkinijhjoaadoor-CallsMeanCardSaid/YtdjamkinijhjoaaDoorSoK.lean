/-
  Runs of == and != on two values, on two faults.
-/
import Derived.Test.YtdjamkinijhjoaaDoorBSoA
import Derived.WalkKit
import Derived.WalkSpells
import Derived.WalkLawsBesides
namespace Go.Proofs.YtdjamkinijhjoaaDoor
open Go.RowKit

theorem run_eqVal (r r' : Bool) (x x' : Int) (w : World) :
    (binOp .eql 45 (.agg #[.bool r, .int .i64 x]) (.agg #[.bool r', .int .i64 x'])).run Tryd.prog w = .ok (.bool (r == r' && x == x')) w := by
  by_cases h1 : r = r' <;> by_cases h2 : x = x' <;> simp [go_sem, h1, h2]
theorem run_neVal (r r' : Bool) (x x' : Int) (w : World) :
    (binOp .neq 45 (.agg #[.bool r, .int .i64 x]) (.agg #[.bool r', .int .i64 x'])).run Tryd.prog w = .ok (.bool (!(r == r' && x == x'))) w := by
  by_cases h1 : r = r' <;> by_cases h2 : x = x' <;> simp [go_sem, h1, h2]
theorem run_eqFault (x y x' y' : Int) (w : World) :
    (binOp .eql 28 (.agg #[.int .i64 x, .int .i64 y]) (.agg #[.int .i64 x', .int .i64 y'])).run Tryd.prog w = .ok (.bool (x == x' && y == y')) w := by
  by_cases h1 : x = x' <;> by_cases h2 : y = y' <;> simp [go_sem, h1, h2]
theorem run_neFault (x y x' y' : Int) (w : World) :
    (binOp .neq 28 (.agg #[.int .i64 x, .int .i64 y]) (.agg #[.int .i64 x', .int .i64 y'])).run Tryd.prog w = .ok (.bool (!(x == x' && y == y'))) w := by
  by_cases h1 : x = x' <;> by_cases h2 : y = y' <;> simp [go_sem, h1, h2]
end Go.Proofs.YtdjamkinijhjoaaDoor
