/-
  The contract of the checker's head.
-/
import Derived.Test.YtdjamkinijhjoaaDoorBChkN
import Derived.IntWalk
import Derived.WalkKit
import Derived.WalkSpells
import Derived.WalkLawsBesides
namespace Go.Proofs.YtdjamkinijhjoaaDoor
open Go.RowKit

/-- phis and instructions of the first k blocks -/
def manyTo (f : FunL) (k : Nat) : Nat := ((f.blocks.take k).map fun b => b.phis.length + b.list.length).sum
theorem manyTo_succ (f : FunL) (k : Nat) (hk : k < f.blocks.length) : manyTo f (k + 1) = manyTo f k + (f.blocks[k].phis.length + f.blocks[k].list.length) := by
  unfold manyTo
  rw [List.take_succ_eq_append_getElem hk, List.map_append, List.sum_append]
  simp
theorem manyTo_all (f : FunL) : manyTo f f.blocks.length = manyL f := by
  unfold manyTo manyL
  rw [List.take_length]


theorem strs_below {w w' : World} {p : Option Addr} {S : List ByteArray} (h : StrsAt w p S) (hb : Below w.heap.size w w') : StrsAt w' p S := by
  rcases h with h | ⟨b, o, hp, h⟩
  · exact .inl h
  · exact .inr ⟨b, o, hp, fun i hi => (hb.cell (p := ⟨b, o + i, none⟩) (lt_of_cell (h i hi))).trans (h i hi)⟩

set_option maxRecDepth 100000 in
set_option maxHeartbeats 1000000 in
theorem head_any (f : FunL) (names : List ByteArray) (g1 fp bp np : Option Addr) (g2 g3 fl fc bc nc : Nat) (w : World)
    (hs : f.name.size ≤ maxLen) (hr1 : I64 f.params) (hr2 : I64 f.regs) (hbl : f.blocks.length * 96 ≤ 140737488351232) (hb : SliceAt w 6 (BlkR w) bp f.blocks) (hnl : names.length ≤ 9223372036854775807) (hN : StrsAt w np names) :
    Calls Tryd.prog 35 #[.agg #[.slice g1 g2 g3, .slice fp fl fc, .string f.name, .int .i64 f.params, .int .i64 f.regs, .slice bp f.blocks.length bc, .slice none 0 0], .slice np names.length nc] w fun e w' => e = .returned (.int .i64 (headE names f)) ∧ Below w.heap.size w w' := by
  have HB := hidI hb
  have HN := hidI hN
  obtain ⟨hp1, hp2⟩ := hr1
  obtain ⟨hp3, hp4⟩ := hr2
  clear hb hN
  go_enter Tryd.func35, Tryd.ntmps35
  go_wp2
  go_loopw [5, 12] (fun m i wr => ∃ (k : Nat) (x : Int), k ≤ f.blocks.length ∧ i = .int .i64 k ∧ m = .int .i64 x ∧ (f.blocks.length ≤ 40 → x = manyTo f k ∧ manyTo f k ≤ k * 10000000000000) ∧ Below (w.heap.size + 1) (w.alloc (.cells #[.slice g1 g2 g3, .slice fp fl fc, .string f.name, .int .i64 f.params, .int .i64 f.regs, .slice bp f.blocks.length bc, .slice none 0 0] 96)) wr) (fun _ i _ => f.blocks.length - (intOf i).toNat)
  case atStart => exact ⟨0, 0, by omega, rfl, rfl, fun _ => by simp [manyTo], Below.refl _ _⟩
  case round =>
    obtain ⟨k, x, hk, rfl, rfl, hV, hb⟩ := hrel
    have HV := hidI hV
    have HBw := hidI hb
    have HBx : Hid (Below w.heap.size w wr) := ((Below.refl _ _).alloc (Nat.le_refl _) _).trans (hb.mono (by omega))
    have hz : w.heap.size < wr.heap.size := by have := hb.size; simp at this; omega
    obtain ⟨hcc, hcf⟩ := blk (heap_below hb (by omega) (heap_here w _))
    clear hV hb
    by_cases hlt : k < f.blocks.length
    · obtain ⟨b2, o2, q1, c1, q2, c2, q3, c3, hp, e0, e1, e2, e3, e4, e5, _, _, hl1, hl2, _, _, _, _⟩ := blkGet HB.out HBx.out hlt
      subst hp
      go_wp2
      refine ⟨⟨k + 1, _, by omega, by go_num, rfl, fun h40 => ?_, HBw.out.alloc (by omega) _⟩, by simp [intOf]; omega⟩
      obtain ⟨h1, h2⟩ := HV.out h40
      rw [manyTo_succ f k hlt]
      refine ⟨?_, by omega⟩
      rw [IntWalk.wrap64_in _ ⟨by omega, by omega⟩, h1]
      omega
    · have HM : Hid (f.blocks.length ≤ 40 → x = manyL f) := by
        intro h
        have := (HV.out h).1
        rw [show k = f.blocks.length by omega, manyTo_all] at this
        exact this
      clear HV
      have HW := hidI (HN.out)
      cases hnb : nameB f.name
      · have HE : Hid (headE names f = 12) := by show _ = _; unfold headE; rw [if_pos hnb]
        go_wp2_with (go_at_call 32; refine (name_any _ _ hs).mono ?_; rintro e w1 ⟨rfl, rfl⟩)
        go_ret
        exact ⟨by rw [HE.out]; rfl, HBx.out⟩
      cases hhb : hasB names f.name
      rotate_left
      · have HE : Hid (headE names f = 7) := by show _ = _; unfold headE; rw [if_neg (by simp [hnb]), if_pos hhb]
        go_wp2_with (first | (go_at_call 32; refine (name_any _ _ hs).mono ?_; rintro e w1 ⟨rfl, rfl⟩) | (go_at_call 33; refine (contains_str _ _ _ _ _ hnl (strs_below HW.out HBx.out)).mono ?_; rintro e w1 ⟨rfl, rfl⟩))
        go_ret
        exact ⟨by rw [HE.out]; rfl, HBx.out⟩
      have HE1 : Hid (headE names f = if ¬(0 ≤ f.params ∧ f.params ≤ 6) ∨ ¬(f.params ≤ f.regs ∧ f.regs ≤ 100) then 3 else if ¬(1 ≤ f.blocks.length ∧ f.blocks.length ≤ 40) ∨ 300 < manyL f then 2 else 0) := by show _ = _; unfold headE; rw [if_neg (by simp [hnb]), if_neg (by simp [hhb])]
      go_wp2_with (first | (go_at_call 32; refine (name_any _ _ hs).mono ?_; rintro e w1 ⟨rfl, rfl⟩) | (go_at_call 33; refine (contains_str _ _ _ _ _ hnl (strs_below HW.out HBx.out)).mono ?_; rintro e w1 ⟨rfl, rfl⟩) | (go_at_call 34; refine (within_any _ _ _ _).mono ?_; rintro e w1 ⟨rfl, rfl⟩))
      all_goals
        go_ret
        refine ⟨?_, HBx.out⟩
        rw [HE1.out]
        refine congrArg (fun n => Ending.returned (.int .i64 n)) ?_
        clear HE1 HB HN HW HBw HBx hcc hcf
        have HM2 := HM.out
        clear HM
        simp only [wthn, decide_eq_true_eq, decide_eq_false_iff_not, Bool.not_eq_eq_eq_not, Bool.not_true, Bool.not_false] at *
        first | (rw [if_pos (by omega)]) | (rw [if_neg (by omega), if_pos (by omega)]) | (rw [if_neg (by omega), if_neg (by omega)]) | trace_state
end Go.Proofs.YtdjamkinijhjoaaDoor
