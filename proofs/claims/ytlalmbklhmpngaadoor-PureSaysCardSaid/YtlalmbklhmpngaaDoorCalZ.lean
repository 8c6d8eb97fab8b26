/-
  The contract of calls.Order.
-/
import Derived.Test.YtlalmbklhmpngaaDoorCalY
import Derived.WalkKit
import Derived.WalkSpells
import Derived.WalkLawsBesides
namespace Go.Proofs.YtlalmbklhmpngaaDoor
open Go.RowKit

theorem res_two_drew {w : World} {R : Nat} {T : TypeId} (h : w.heap[R]? = some (.cells #[.int .i64 0, .int .i64 0] T (0, 0))) (o1 o2 : Obj) (e a : Int) (j : Nat) :
    ((((w.setCell ⟨R, 0, none⟩ (.int .i64 e)).setCell ⟨R, 1, none⟩ (.int .i64 a)).alloc o1).alloc o2).drew.cell? ⟨R, j, none⟩ = (#[.int .i64 e, .int .i64 a] : Array Value)[j]? :=
  (blk (heap_drew (heap_step (heap_step (heap_set (heap_set h 0 _) 1 _))))).1 j
theorem infoInt6 : (Tryd.prog.info? 3).map (fun i => (i.zero, i.size, i.bytes)) = some (some (.int .i64 0), 1, 8) := by kernel_rfl
theorem underInts6 : Tryd.prog.underlying 38 = some (.slice 3) := by kernel_rfl
theorem infoBool6 : (Tryd.prog.info? 4).map (fun i => (i.zero, i.size, i.bytes)) = some (some (.bool false), 1, 1) := by kernel_rfl
theorem underBools6 : Tryd.prog.underlying 50 = some (.slice 4) := by kernel_rfl

/-- ready by the rows of the graph, or by who calls whom -/
theorem readyG_U (xs : List FunL) (told : Nat → Bool) (r : Nat → Nat) {k : Nat} (hk : k < xs.length) : readyG (graphTo xs xs.length) told r k = readyB xs.length (edgeU xs) r told k := by
  have hg : (graphTo xs xs.length).getD k [] = rowTo xs[k] xs.length := by
    unfold graphTo
    simp [List.getD, hk]
  unfold readyG readyB
  rw [hg]
  congr 1
  rw [Bool.eq_iff_iff]
  simp only [Bool.not_eq_true', List.any_eq_false, List.all_eq_true, Bool.not_eq_true']
  constructor
  · intro h x hx
    have hx2 := List.mem_range.1 hx
    cases he : edgeU xs k x
    · rfl
    · have hm : (x : Int) ∈ rowTo xs[k] xs.length := rowTo_iff.2 ⟨⟨by omega, by omega⟩, by unfold edgeU at he; rw [List.getElem?_eq_getElem hk] at he; exact he⟩
      have := h _ hm
      unfold lateB at this
      simpa using this
  · intro h x hx
    obtain ⟨⟨h0, h1⟩, hc⟩ := rowTo_iff.1 hx
    obtain ⟨y, rfl⟩ := Int.eq_ofNat_of_zero_le h0
    have := h y (List.mem_range.2 (by omega))
    have he : edgeU xs k y = true := by unfold edgeU; rw [List.getElem?_eq_getElem hk]; exact hc
    rw [he] at this
    unfold lateB
    simpa using this
theorem OrdW.set {w : World} {n A C R T : Nat} {gp : Option Addr} {gc bt bg br : Nat} {told : Nat → Bool} {r : Nat → Nat} (h : OrdW w n A C R T gp gc bt bg br told r) {k : Nat} (h1 : R ≠ T) (h2 : bt ≠ T) (h3 : bg ≠ T) (h4 : br ≠ T) : OrdW (w.setCell ⟨T, k, none⟩ (.bool true)) n A C R T gp gc bt bg br (fun j => if j = k then true else told j) r := by
  refine ⟨(cell_set_ne h2).trans h.cT, (cell_set_ne h3).trans h.cG, (cell_set_ne h4).trans h.cR, (h.rT.set k _).congr fun j _ => ?_, h.rR.setOther (a := ⟨T, k, none⟩) h1 _⟩
  by_cases e : j = k
  · simp [e]
  · simp [e]
theorem OrdW.grown {w w' : World} {n A C R T : Nat} {gp : Option Addr} {gc bt bg br : Nat} {told : Nat → Bool} {r : Nat → Nat} (h : OrdW w n A C R T gp gc bt bg br told r) {row : Option Nat} (hg : w.grownBy w' row) (h0 : row ≠ some T) (h1 : row ≠ some R) (h2 : row ≠ some bt) (h3 : row ≠ some bg) (h4 : row ≠ some br) : OrdW w' n A C R T gp gc bt bg br told r :=
  ⟨(World.cell?_of_block (hg.block bt (lt_of_cell h.cT) (fun e => h2 e.symm))).trans h.cT, (World.cell?_of_block (hg.block bg (lt_of_cell h.cG) (fun e => h3 e.symm))).trans h.cG, (World.cell?_of_block (hg.block br (lt_of_cell h.cR) (fun e => h4 e.symm))).trans h.cR, h.rT.of_block (hg.block T h.rT.lt (fun e => h0 e.symm)), h.rR.of_block (hg.block R h.rR.lt (fun e => h1 e.symm))⟩
theorem OrdW.congr {w : World} {n A C R T : Nat} {gp : Option Addr} {gc bt bg br : Nat} {told told' : Nat → Bool} {r : Nat → Nat} (h : OrdW w n A C R T gp gc bt bg br told r) (e : ∀ j, told j = told' j) : OrdW w n A C R T gp gc bt bg br told' r :=
  ⟨h.cT, h.cG, h.cR, h.rT.congr fun j _ => by rw [e j], h.rR⟩
theorem intsN_snoc (l : List Nat) (k : Nat) : intsN (l ++ [k]) = intsN l ++ [(k : Int)] := by simp [intsN]

end Go.Proofs.YtlalmbklhmpngaaDoor
