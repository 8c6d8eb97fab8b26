/-
  CallsRingsSays holds: for every input that reads as data the law returns true and the arguments read as they did. Condition: the listed variable code.ways holds what the program's text lays (tied by the card).
-/
import Derived.Test.YtlalmbklhmpngaaDoorCalRo
import Derived.Test.YtlalmbklhmpngaaDoorCalZ
import Derived.Test.YtlalmbklhmpngaaDoorCalAa
import Derived.Test.YtlalmbklhmpngaaDoorBPurA
import Derived.Deep.RegionWith
import Derived.Test.YtlalmbklhmpngaaDoorLaidW
import Derived.Test.YtlalmbklhmpngaaDoorCards
import Derived.Test.YtlalmbklhmpngaaDoorTie
import Derived.SevenTiedAt
import Derived.WalkKit
import Derived.WalkSpells
import Derived.WalkLawsBesides
namespace Go.Proofs.YtlalmbklhmpngaaDoor
open Go.RowKit

theorem ints_below {w w' : World} {p : Option Addr} {xs : List Int} (h : SliceAt w 1 IntR p xs) (hb : Below w.heap.size w w') : SliceAt w' 1 IntR p xs :=
  h.mono hb (by omega) fun _ _ h => h
theorem ints_same (xs : List Int) (p q : Option Addr) (n c d : Nat) (w : World) (hn : xs.length = n) (hx : n ≤ 140737488355328) (hX : SliceAt w 1 IntR p xs) (hY : SliceAt w 1 IntR q xs) :
    Calls Tryd.prog 27 #[.slice p n c, .slice q n d] w fun e w' => e = .returned (.bool true) ∧ Below w.heap.size w w' := by
  subst hn
  refine (ints_any xs xs p q c d w hx hx hX hY).mono fun e w' h => ⟨?_, h.2⟩
  rw [h.1]; simp

open Go Go.RowKit Go.ChangeShapes Go.WideShapes Go.ChangeAt

theorem callsRingsSays_read : ∀ t ∈ [35], Tryd.prog.readableRec t = true ∧ t < Tryd.prog.types.size := by
  have h : ∀ t ∈ [35], (Tryd.prog.readableRec t && decide (t < Tryd.prog.types.size)) = true := List.all_eq_true.1 (by kernel_rfl)
  intro t ht
  have := h t ht
  simp only [Bool.and_eq_true, decide_eq_true_eq] at this
  exact this

end Go.Proofs.YtlalmbklhmpngaaDoor
