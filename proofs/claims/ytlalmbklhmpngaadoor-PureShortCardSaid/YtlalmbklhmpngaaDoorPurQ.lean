/-
  The contract of turneryref5.ManyOf.
-/
import Derived.Test.YtlalmbklhmpngaaDoorPurP
import Derived.BigQuiet
import Derived.WalkKit
import Derived.WalkSpells
import Derived.WalkLawsBesides
namespace Go.Proofs.YtlalmbklhmpngaaDoor
open Go.RowKit

def sumB (f : FunL) (k : Nat) : Nat := ((f.blocks.take k).map fun b => b.phis.length + b.list.length).sum
theorem sumB_succ {f : FunL} {k : Nat} (h : k < f.blocks.length) : sumB f (k + 1) = sumB f k + (f.blocks[k].phis.length + f.blocks[k].list.length) := by
  unfold sumB
  rw [List.take_succ_eq_append_getElem h, List.map_append, List.sum_append]
  simp
theorem sumB_le {f : FunL} : ∀ k, k ≤ f.blocks.length → sumB f k ≤ manyL f := fun k hk => by
  have h1 : ∀ j, k + j ≤ f.blocks.length → sumB f k ≤ sumB f (k + j) := by
    intro j
    induction j with
    | zero => intro _; exact Nat.le_refl _
    | succ j ih =>
      intro hj
      have := ih (by omega)
      rw [← Nat.add_assoc, sumB_succ (by omega)]
      omega
  have h2 := h1 (f.blocks.length - k) (by omega)
  rw [Nat.add_sub_cancel' hk] at h2
  have h3 : sumB f f.blocks.length = manyL f := by unfold sumB manyL; rw [List.take_length]
  omega
set_option maxHeartbeats 1000000 in
theorem many_any (f : FunL) (bp : Option Addr) (bc : Nat) (w : World) (hn : f.blocks.length ≤ 1000) (hm : manyL f ≤ 1000) (hB : SliceAt w 6 (BlkR w) bp f.blocks) :
    Calls Tryd.prog 34 #[.agg #[.string f.name, .int .i64 f.params, .int .i64 f.regs, .slice bp f.blocks.length bc]] w fun e w' => e = .returned (.int .i64 (manyL f)) ∧ Below w.heap.size w w' := by
  have HB := hidI hB
  clear hB
  go_enter Tryd.func34, Tryd.ntmps34
  go_wp2
  go_loopw [3, 4] (fun n i wr => ∃ k : Nat, k ≤ f.blocks.length ∧ i = .int .i64 k ∧ n = .int .i64 (sumB f k : Nat) ∧ Below (w.heap.size + 1) (w.alloc (.cells #[.string f.name, .int .i64 f.params, .int .i64 f.regs, .slice bp f.blocks.length bc] 55)) wr) (fun _ i _ => f.blocks.length - (intOf i).toNat)
  case atStart => exact ⟨0, by omega, rfl, by simp [sumB], Below.refl _ _⟩
  case round =>
    obtain ⟨k, hk, rfl, rfl, hb⟩ := hrel
    have HBx : Hid (Below w.heap.size w wr) := ((Below.refl _ _).alloc (Nat.le_refl _) _).trans (hb.mono (by omega))
    have hF := heap_below hb (by omega) (heap_here w _)
    obtain ⟨hcc, hcf⟩ := blk hF
    have zf := (Array.getElem?_eq_some_iff.1 hF).1
    have HBb := hidI hb
    have hmk := sumB_le k hk
    clear hb hF
    by_cases hlt : k < f.blocks.length
    · obtain ⟨bb, bo, pp, pc, lp, lc, tp, tc, hbp, b0, b1, b2, b3, b4, b5, _, _, _, hll, htl, _, _, _⟩ := blkGet HB.out HBx.out hlt
      subst hbp
      have zb := lt_of_cell b0
      have hs := sumB_succ hlt
      have hms := sumB_le (k + 1) hlt
      have HS := hidI hs
      have gk0 : (0 : Int) ≤ (k : Int) := by omega
      have gk1 : (k : Int) < f.blocks.length := by omega
      have hp1 : f.blocks[k].phis.length ≤ 1000 := by omega
      have hp2 : f.blocks[k].list.length ≤ 1000 := by omega
      clear hs
      go_wp2_with fail
      go_quiet (fail)
      go_wp2_with fail
      refine ⟨⟨k + 1, by omega, by go_num, ?_, ?_⟩, by simp [intOf]; omega⟩
      · rw [HS.out]
        congr 1
        omega
      · exact below_drewN HBb.out nq
    · obtain rfl : k = f.blocks.length := by omega
      go_wp2
      go_ret
      refine ⟨?_, HBx.out⟩
      have h3 : sumB f f.blocks.length = manyL f := by unfold sumB manyL; rw [List.take_length]
      rw [h3]
      rfl
end Go.Proofs.YtlalmbklhmpngaaDoor
