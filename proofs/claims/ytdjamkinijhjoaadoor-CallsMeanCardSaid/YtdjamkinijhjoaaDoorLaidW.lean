/-
  The listed variable code.ways: what the row's condition gives the walks; the door's own heap meets it.
-/
import Derived.Test.YtdjamkinijhjoaaDoorRows
import Derived.Test.YtdjamkinijhjoaaDoorBChkD
import Derived.ProofKit
import Derived.LaidMore
import Derived.OpenShut
import Derived.Stop.Joined
import Derived.LaidHandle
namespace Go.Proofs.YtdjamkinijhjoaaDoor
open Go.ChangeShapes Go.WideShapes Go.ChangeAt Go.RowKit

def laidWays : List (String × DataW Unit) := Rows.callsDoSaysRow.laid
def nameWays : String := (Rows.callsDoSaysRow.laid.map (·.1)).headD ""
theorem gWays : Tryd.prog.globalNamed nameWays = some 1 := by kernel_rfl
theorem tWays : (Tryd.prog.globals[1]?).map (·.type) = some 172 := by kernel_rfl
theorem own : ownKnob Tryd.prog.godebug = none := by kernel_rfl
theorem laidOut : laidOutB Tryd.prog = true := by kernel_rfl
theorem door_ways (os : Os) (args : Array Value) : laidMetH Tryd.prog laidWays ((World.doorLaid Tryd.prog 400 os).forCall (fun _ _ => 0) ⟨#[], args, []⟩).memory :=
  laidMetH_of_parts3 (fuel := 8) (laidMet_of_run' 8 (by kernel_rfl) (by kernel_rfl)) (by kernel_rfl) (by kernel_rfl)

theorem ways_of_laid {W : World} (h : laidMetH Tryd.prog laidWays W) : Ways W := by
  rw [MakeChecks.laidMetH_plain _ _ _ (by kernel_rfl)] at h
  obtain ⟨ps, ⟨g1, t1, cs1, f1, p1, q1, hg1, ht1, hv1, hd1, _, _⟩, _, _⟩ := h
  obtain rfl := Option.some.inj (gWays.symm.trans hg1)
  obtain rfl := Option.some.inj (tWays.symm.trans ht1)
  obtain ⟨xs, m1, rfl, hx1, hlen, hn4, hel⟩ := DataW.trod_array Tryd.underlying172 hd1
  have c3 : Tryd.prog.cellsOf 3 = 1 := by kernel_rfl
  have c4 : Tryd.prog.cellsOf 172 = 4 := by kernel_rfl
  rw [c4] at hlen
  obtain ⟨l1⟩ := cs1
  obtain ⟨a0, a1, a2, a3, rfl⟩ := len_4 (show l1.length = 4 from hlen)
  obtain ⟨x0, x1, x2, x3, rfl⟩ := len_4 hn4
  simp only [Rows.laid_turnery_code_ways, List.map_cons, List.map_nil, Prod.mk.injEq, DataW.agg.injEq, List.cons.injEq] at hx1
  rw [c3] at hel
  have hv := World.var?_cell hg1 hv1
  have one : ∀ (i : Nat) (a : Value) (x : DataW Unit × List MemPlace) (n : Int), DataW.trod (fun _ => ()) Tryd.prog W 0 (fun _ => true) false m1 3 [a] = some x → DataW.lit (.int .i64 n) = x.1 → a = .int .i64 n := fun i a x n h e => by
    obtain ⟨k, e1, e2, _⟩ := DataW.trod_int Tryd.underlying3 (show DataW.trod _ Tryd.prog W 0 _ false m1 3 _ = some x from h)
    rw [e2] at e
    simp at e e1
    rw [e1, e]
  obtain ⟨⟨e0, e1, e2, e3, _⟩, _⟩ := hx1
  obtain rfl := one 0 a0 x0 0 (hel 0 (by decide)) e0
  obtain rfl := one 1 a1 x1 0 (hel 1 (by decide)) e1
  obtain rfl := one 2 a2 x2 1 (hel 2 (by decide)) e2
  obtain rfl := one 3 a3 x3 2 (hel 3 (by decide)) e3
  exact ⟨by simpa using hv 0, by simpa using hv 1, by simpa using hv 2, by simpa using hv 3⟩
end Go.Proofs.YtdjamkinijhjoaaDoor
