/-
  The contracts of pure.words, pure.May, turneryref5.WordsOf, turneryref5.PureEnds, turnerysame.Fault.
-/
import Derived.Test.YteckkdmgkikeaaaDoorChkS
import Derived.Deep.RegionHeld3
import Derived.WalkKit
import Derived.WalkSpells
import Derived.WalkLawsBesides
namespace Go.Proofs.YteckkdmgkikeaaaDoor
open Go.RowKit

def mayB (op an bn : Int) (ar br : Bool) (words : Int) : Bool :=
  if op = 5 ∨ op = 6 then br || bn == 0
  else if op = 18 ∨ op = 19 then ar || decide (an < 0) || decide (words ≤ an)
  else false

set_option maxHeartbeats 1000000 in
theorem words_any (u : UniL) (gp fp : Option Addr) (fl gc fc : Nat) (w : World) (hgl : u.globals.length * 48 ≤ 140737488351232) (hG : SliceAt w 3 (GloR w) gp u.globals) (hw : ∀ k, k ≤ u.globals.length → 0 ≤ wordsTo u k ∧ wordsTo u k ≤ 200) :
    Calls Tryd.prog 42 #[.agg #[.slice gp u.globals.length gc, .slice fp fl fc]] w fun e w' => e = .returned (.int .i64 (wordsU u)) ∧ Below w.heap.size w w' := by
  have HG := hidI hG
  have HW := hidI hw
  clear hG hw
  go_enter Tryd.func42, Tryd.ntmps42
  go_wp2
  go_loopw [3, 9] (fun n i wr => ∃ k : Nat, k ≤ u.globals.length ∧ i = .int .i64 k ∧ n = .int .i64 (wordsTo u k) ∧ Below w.heap.size w wr) (fun _ i _ => u.globals.length - (intOf i).toNat)
  case atStart => exact ⟨0, by omega, rfl, rfl, by repeat (first | with_reducible exact Below.refl _ _ | with_reducible exact HB3.out | with_reducible refine Below.drew ?_ | with_reducible refine below_drewN ?_ _ | with_reducible refine Below.setCell ?_ ?_ _ | with_reducible refine Below.alloc ?_ ?_ _ | with_reducible exact HB2.out | with_reducible exact HB1.out | with_reducible refine Below.trans ?_ (Below.mono hb3 ?_) | with_reducible refine Below.trans ?_ (Below.mono hb5 ?_) | with_reducible refine Below.trans ?_ (Below.mono hb4 ?_) | omega | (simp; omega) | simp)⟩
  case round =>
    obtain ⟨k, hk, rfl, rfl, hb⟩ := hrel
    have HB := hidI hb
    have h0 := HW.out k hk
    by_cases hlt : k < u.globals.length
    · obtain ⟨b2, o2, q, c, hp, e0, e1, e2, hns, hgs, hil, _⟩ := gloGet HG.out hb hlt
      have h1 := HW.out (k + 1) (by omega)
      rw [wordsTo_succ hlt] at h1
      have HS := hidI (wordsTo_succ hlt)
      have hgs1 := hgs.1
      have hgs2 := hgs.2
      subst hp
      clear hb hgs
      go_wp2
      refine ⟨⟨k + 1, by omega, by go_num, by rw [HS.out], ?_⟩, by simp [intOf]; omega⟩
      exact HB.out.alloc HB.out.size _
    · clear hb
      go_wp2
      go_ret
      refine ⟨?_, HB.out⟩
      obtain rfl : k = u.globals.length := by omega
      rfl

set_option maxHeartbeats 1000000 in
theorem wordsOf_any (u : UniL) (gp fp : Option Addr) (fl gc fc : Nat) (w : World) (hgl : u.globals.length * 48 ≤ 140737488351232) (hG : SliceAt w 3 (GloR w) gp u.globals) (hw : ∀ k, k ≤ u.globals.length → 0 ≤ wordsTo u k ∧ wordsTo u k ≤ 200) :
    Calls Tryd.prog 51 #[.agg #[.slice gp u.globals.length gc, .slice fp fl fc]] w fun e w' => e = .returned (.int .i64 (wordsU u)) ∧ Below w.heap.size w w' := by
  have HG := hidI hG
  have HW := hidI hw
  clear hG hw
  go_enter Tryd.func51, Tryd.ntmps51
  go_wp2
  go_loopw [3, 4] (fun n i wr => ∃ k : Nat, k ≤ u.globals.length ∧ i = .int .i64 k ∧ n = .int .i64 (wordsTo u k) ∧ Below (w.heap.size + 1) (w.alloc (.cells #[.slice gp u.globals.length gc, .slice fp fl fc] 25)) wr) (fun _ i _ => u.globals.length - (intOf i).toNat)
  case atStart => exact ⟨0, by omega, rfl, rfl, Below.refl _ _⟩
  case round =>
    obtain ⟨k, hk, rfl, rfl, hb⟩ := hrel
    have HB := hidI hb
    have h0 := HW.out k hk
    have HBx : Hid (Below w.heap.size w wr) := ((Below.refl _ _).alloc (Nat.le_refl _) _).trans (hb.mono (by omega))
    obtain ⟨hcc, hcf⟩ := blk (heap_below hb (by omega) (heap_here w _))
    by_cases hlt : k < u.globals.length
    · obtain ⟨b2, o2, q, c, hp, e0, e1, e2, hns, hgs, hil, _⟩ := gloGet HG.out HBx.out hlt
      have h1 := HW.out (k + 1) (by omega)
      rw [wordsTo_succ hlt] at h1
      have HS := hidI (wordsTo_succ hlt)
      have hgs1 := hgs.1
      have hgs2 := hgs.2
      subst hp
      clear hb hgs
      go_wp2
      refine ⟨⟨k + 1, by omega, by go_num, by rw [HS.out], ?_⟩, by simp [intOf]; omega⟩
      exact HB.out
    · clear hb
      go_wp2
      go_ret
      refine ⟨?_, HBx.out⟩
      obtain rfl : k = u.globals.length := by omega
      rfl

set_option maxHeartbeats 1000000 in
theorem may_any (op dst an bn fn words : Int) (ar br : Bool) (p : Option Addr) (l c : Nat) (w : World) :
    Calls Tryd.prog 41 #[.agg #[.int .i64 op, .int .i64 dst, .bool ar, .int .i64 an, .bool br, .int .i64 bn, .int .i64 fn, .slice p l c], .int .i64 words] w fun e w' => e = .returned (.bool (mayB op an bn ar br words)) ∧ Below w.heap.size w w' := by
  go_enter Tryd.func41, Tryd.ntmps41
  go_wp2
  all_goals
    go_ret
    refine ⟨congrArg (fun b => Ending.returned (.bool b)) ?_, by repeat (first | with_reducible exact Below.refl _ _ | with_reducible exact HB3.out | with_reducible refine Below.drew ?_ | with_reducible refine below_drewN ?_ _ | with_reducible refine Below.setCell ?_ ?_ _ | with_reducible refine Below.alloc ?_ ?_ _ | with_reducible exact HB2.out | with_reducible exact HB1.out | with_reducible refine Below.trans ?_ (Below.mono hb3 ?_) | with_reducible refine Below.trans ?_ (Below.mono hb5 ?_) | with_reducible refine Below.trans ?_ (Below.mono hb4 ?_) | omega | (simp; omega) | simp)⟩
    first | (simp_all [mayB]; done) | (simp_all [mayB]; omega) | trace_state

theorem fault_any (c a : Int) (w : World) :
    Calls Tryd.prog 15 #[.int .i64 c, .int .i64 a] w fun e w' => e = .returned (.agg #[.int .i64 c, .int .i64 a]) ∧ w' = w.alloc (.cells #[.int .i64 c, .int .i64 a] 27) := by
  go_enter Tryd.func15, Tryd.ntmps15
  go_wp2
  refine bodyPost_ret ?_ rfl ⟨rfl, rfl⟩
  simp [results, Tryd.results15, go_sem]
end Go.Proofs.YteckkdmgkikeaaaDoor
