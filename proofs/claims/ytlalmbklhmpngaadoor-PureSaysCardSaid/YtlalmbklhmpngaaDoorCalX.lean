/-
  The contracts of what calls.Order asks: is a function ready?
-/
import Derived.Test.YtlalmbklhmpngaaDoorCalW
import Derived.BigQuiet
import Derived.Deep.QuietTactic
import Derived.WalkKit
import Derived.WalkSpells
import Derived.WalkLawsBesides
namespace Go.Proofs.YtlalmbklhmpngaaDoor
open Go.RowKit

/-- who of the numbers is not told yet, and of another ring -/
def lateB (told : Nat → Bool) (r : Nat → Nat) (k : Nat) (x : Int) : Bool := !told x.toNat && r x.toNat != r k

/-- what the closures of calls.Order see -/
structure OrdW (w : World) (n A C R T : Nat) (gp : Option Addr) (gc bt bg br : Nat) (told : Nat → Bool) (r : Nat → Nat) : Prop where
  cT : w.cell? ⟨bt, 0, none⟩ = some (.slice (some ⟨T, 0, none⟩) n n)
  cG : w.cell? ⟨bg, 0, none⟩ = some (.slice gp n gc)
  cR : w.cell? ⟨br, 0, none⟩ = some (.slice (some ⟨R, 0, none⟩) n n)
  rT : w.rowIs T A n (fun j => .bool (told j))
  rR : w.rowIs R C n (fun j => .int .i64 (r j))
theorem OrdW.below {w w' : World} {n A C R T : Nat} {gp : Option Addr} {gc bt bg br : Nat} {told : Nat → Bool} {r : Nat → Nat} (h : OrdW w n A C R T gp gc bt bg br told r) (hb : Below w.heap.size w w') : OrdW w' n A C R T gp gc bt bg br told r :=
  ⟨(hb.cell (p := ⟨bt, 0, none⟩) (lt_of_cell h.cT)).trans h.cT, (hb.cell (p := ⟨bg, 0, none⟩) (lt_of_cell h.cG)).trans h.cG, (hb.cell (p := ⟨br, 0, none⟩) (lt_of_cell h.cR)).trans h.cR, rowIs_below h.rT hb, rowIs_below h.rR hb⟩

/-- is a function ready? -/
def readyG (gs : List (List Int)) (told : Nat → Bool) (r : Nat → Nat) (k : Nat) : Bool := !told k && !(gs.getD k []).any (lateB told r k)
end Go.Proofs.YtlalmbklhmpngaaDoor
