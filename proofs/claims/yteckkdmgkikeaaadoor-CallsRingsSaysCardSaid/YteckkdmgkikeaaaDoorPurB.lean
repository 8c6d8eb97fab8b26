/-
  The contract of turneryref5.PureEnds.
-/
import Derived.Test.YteckkdmgkikeaaaDoorPurA
import Derived.BigQuiet
import Derived.Deep.QuietTactic
import Derived.Deep.RegionHeld3
import Derived.WalkKit
import Derived.WalkSpells
import Derived.WalkLawsBesides
namespace Go.Proofs.YteckkdmgkikeaaaDoor
open Go.RowKit

set_option maxHeartbeats 1000000 in
theorem pureEnds_any (u : UniL) (op dst an bn fn : Int) (ar br : Bool) (p : Option Addr) (l c : Nat) (gp fp : Option Addr) (fl gc fc : Nat) (w : World) (hgl : u.globals.length * 48 ≤ 140737488351232) (hG : SliceAt w 3 (GloR w) gp u.globals) (hw : ∀ k, k ≤ u.globals.length → 0 ≤ wordsTo u k ∧ wordsTo u k ≤ 200) :
    Calls Tryd.prog 16 #[.agg #[.slice gp u.globals.length gc, .slice fp fl fc], .agg #[.int .i64 op, .int .i64 dst, .bool ar, .int .i64 an, .bool br, .int .i64 bn, .int .i64 fn, .slice p l c]] w fun e w' => e = .returned (.bool (mayB op an bn ar br (wordsU u))) ∧ Below w.heap.size w w' := by
  have HG := hidI hG
  have HW := hidI hw
  clear hG hw
  by_cases h18 : op = 18 ∨ op = 19
  · have HM : Hid (mayB op an bn ar br (wordsU u) = (ar || decide (an < 0) || decide (wordsU u ≤ an))) := by
      show _ = _
      unfold mayB
      rw [if_neg (by omega), if_pos h18]
    have h5 : (op == 5) = false := by simp; omega
    have h6 : (op == 6) = false := by simp; omega
    have h7 : ((op == 18) || (op == 19)) = true := by simp; exact h18
    clear h18
    cases ar
    · by_cases hn : an < 0
      · have hd : decide (an < 0) = true := by simp [hn]
        go_enter Tryd.func16, Tryd.ntmps16
        go_wp2
        all_goals go_quiet (fail)
        all_goals go_wp2
        all_goals go_ret
        all_goals exact ⟨by rw [HM.out]; simp [hn], by repeat (first | with_reducible exact Below.refl _ _ | with_reducible exact HB3.out | with_reducible refine Below.drew ?_ | with_reducible refine below_drewN ?_ _ | with_reducible refine Below.setCell ?_ ?_ _ | with_reducible refine Below.alloc ?_ ?_ _ | with_reducible exact HB2.out | with_reducible exact HB1.out | with_reducible refine Below.trans ?_ (Below.mono hb3 ?_) | with_reducible refine Below.trans ?_ (Below.mono hb5 ?_) | with_reducible refine Below.trans ?_ (Below.mono hb4 ?_) | omega | (simp; omega) | simp)⟩
      · have hd : decide (an < 0) = false := by simpa using hn
        go_enter Tryd.func16, Tryd.ntmps16
        go_wp2
        all_goals
          go_region_held3 (fun w' => w'.cell? ⟨w.heap.size, 0, none⟩ = some (.slice gp u.globals.length gc) ∧ w'.cell? ⟨w.heap.size, 1, none⟩ = some (.slice fp fl fc) ∧ w'.cell? ⟨w.heap.size + 1, 2, none⟩ = some (.bool false) ∧ w'.cell? ⟨w.heap.size + 1, 3, none⟩ = some (.int .i64 an)) (go_keep)
            (first | (go_at_call 51; refine (wordsOf_any u _ _ _ _ _ _ hgl ?_ HW.out).mono ?_; (exact glosMono HG.out (by repeat (first | with_reducible exact Below.refl _ _ | with_reducible exact HB3.out | with_reducible refine Below.drew ?_ | with_reducible refine below_drewN ?_ _ | with_reducible refine Below.setCell ?_ ?_ _ | with_reducible refine Below.alloc ?_ ?_ _ | with_reducible exact HB2.out | with_reducible exact HB1.out | with_reducible refine Below.trans ?_ (Below.mono hb3 ?_) | with_reducible refine Below.trans ?_ (Below.mono hb5 ?_) | with_reducible refine Below.trans ?_ (Below.mono hb4 ?_) | omega | (simp; omega) | simp))); rintro e w2 ⟨rfl, hb2⟩; obtain ⟨hcq, hfq, hzq⟩ := bcell hb2; have hqa := fun o => hcq w.heap.size o (by simp; omega)))
        all_goals go_wp2
        all_goals go_ret
        all_goals
          refine ⟨?_, Below.trans ?_ (hb2.mono (by simp; omega))⟩
          · rw [HM.out, hd]
            simp
          · repeat (first | with_reducible exact Below.refl _ _ | with_reducible exact HB3.out | with_reducible refine Below.drew ?_ | with_reducible refine below_drewN ?_ _ | with_reducible refine Below.setCell ?_ ?_ _ | with_reducible refine Below.alloc ?_ ?_ _ | with_reducible exact HB2.out | with_reducible exact HB1.out | with_reducible refine Below.trans ?_ (Below.mono hb3 ?_) | with_reducible refine Below.trans ?_ (Below.mono hb5 ?_) | with_reducible refine Below.trans ?_ (Below.mono hb4 ?_) | omega | (simp; omega) | simp)
    · go_enter Tryd.func16, Tryd.ntmps16
      go_wp2
      all_goals go_quiet (fail)
      all_goals go_wp2
      all_goals go_ret
      all_goals exact ⟨by rw [HM.out]; simp, by repeat (first | with_reducible exact Below.refl _ _ | with_reducible exact HB3.out | with_reducible refine Below.drew ?_ | with_reducible refine below_drewN ?_ _ | with_reducible refine Below.setCell ?_ ?_ _ | with_reducible refine Below.alloc ?_ ?_ _ | with_reducible exact HB2.out | with_reducible exact HB1.out | with_reducible refine Below.trans ?_ (Below.mono hb3 ?_) | with_reducible refine Below.trans ?_ (Below.mono hb5 ?_) | with_reducible refine Below.trans ?_ (Below.mono hb4 ?_) | omega | (simp; omega) | simp)⟩
  · have h18b : (op == 18) = false := by simp; omega
    have h19b : (op == 19) = false := by simp; omega
    clear h18
    go_enter Tryd.func16, Tryd.ntmps16
    go_wp2
    all_goals
      go_ret
      refine ⟨congrArg (fun b => Ending.returned (.bool b)) ?_, by repeat (first | with_reducible exact Below.refl _ _ | with_reducible exact HB3.out | with_reducible refine Below.drew ?_ | with_reducible refine below_drewN ?_ _ | with_reducible refine Below.setCell ?_ ?_ _ | with_reducible refine Below.alloc ?_ ?_ _ | with_reducible exact HB2.out | with_reducible exact HB1.out | with_reducible refine Below.trans ?_ (Below.mono hb3 ?_) | with_reducible refine Below.trans ?_ (Below.mono hb5 ?_) | with_reducible refine Below.trans ?_ (Below.mono hb4 ?_) | omega | (simp; omega) | simp)⟩
      first | (simp_all [mayB]; done) | (simp_all [mayB]; omega) | trace_state
end Go.Proofs.YteckkdmgkikeaaaDoor
