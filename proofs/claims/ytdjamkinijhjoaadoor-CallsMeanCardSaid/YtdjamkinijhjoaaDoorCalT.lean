/-
  The law CallsGraphSays, walked out of the contracts.
-/
import Derived.Test.YtdjamkinijhjoaaDoorBCalO
import Derived.BigQuiet
import Derived.Deep.QuietTactic
import Derived.Deep.RegionHeld3
import Derived.WalkKit
import Derived.WalkSpells
import Derived.WalkLawsBesides
namespace Go.Proofs.YtdjamkinijhjoaaDoor
open Go.RowKit

theorem mainOf_at (xs : List FunL) (gp fp : Option Addr) (gl gc fc m : Nat) (w : World) (hl : xs.length ≤ 140737488355328) (hF : SliceAt w 4 (FunR w) fp xs) (hm : mainI xs = some m) :
    Calls Tryd.prog 43 #[.agg #[.slice gp gl gc, .slice fp xs.length fc]] w fun e w' => e = .returned (.int .i64 m) ∧ Below w.heap.size w w' := by
  refine (mainOf_any xs gp fp gl gc fc w hl hF).mono fun e w' h => ⟨?_, h.2⟩
  rw [h.1, hm]; rfl

end Go.Proofs.YtdjamkinijhjoaaDoor
