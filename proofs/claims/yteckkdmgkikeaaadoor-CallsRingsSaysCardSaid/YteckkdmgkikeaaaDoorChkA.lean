/-
  The contracts of the small functions that code.Check reaches: core.Within, core.Fault, the checker's val and dst, core.Name.
-/
import Derived.Test.YteckkdmgkikeaaaDoorDatC
import Derived.WalkKit
import Derived.WalkSpells
import Derived.WalkLawsBesides
namespace Go.Proofs.YteckkdmgkikeaaaDoor
open Go.RowKit

def wthn (n lo hi : Int) : Bool := decide (lo ≤ n ∧ n ≤ hi)
set_option maxHeartbeats 400000 in
theorem within_any (n lo hi : Int) (w : World) :
    Calls Tryd.prog 46 #[.int .i64 n, .int .i64 lo, .int .i64 hi] w fun e w' => e = .returned (.bool (wthn n lo hi)) ∧ w = w' := by
  by_cases h1 : lo ≤ n
  · by_cases h2 : n ≤ hi
    all_goals
      go_enter Tryd.func46, Tryd.ntmps46
      go_wp2
      go_ret
      exact ⟨by simp [wthn]; omega, rfl⟩
  · go_enter Tryd.func46, Tryd.ntmps46
    go_wp2
    go_ret
    exact ⟨by simp [wthn]; omega, rfl⟩
set_option maxHeartbeats 400000 in
theorem cfault_any (c a : Int) (w : World) :
    Calls Tryd.prog 43 #[.int .i64 c, .int .i64 a] w fun e w' => e = .returned (.agg #[.int .i64 c, .int .i64 a]) ∧ w' = w.alloc (.cells #[.int .i64 c, .int .i64 a] 27) := by
  go_enter Tryd.func43, Tryd.ntmps43
  go_wp2
  refine bodyPost_ret ?_ rfl ⟨rfl, rfl⟩
  simp [results, Tryd.results43, go_sem]

/-- is a value's register none of the function's? -/
def valE (regs : Int) (r : Bool) (n : Int) : Int := if r = true ∧ ¬(0 ≤ n ∧ n ≤ regs - 1) then 3 else 0
def dstE (regs n : Int) : Int := if 0 ≤ n ∧ n ≤ regs - 1 then 0 else 3

set_option maxHeartbeats 400000 in
theorem val_any (g1 f1 b1 a1 : Option Addr) (g2 g3 f2 f3 b2 b3 a2 a3 : Nat) (nm : ByteArray) (params regs n : Int) (r : Bool) (w : World) (h1 : 0 ≤ regs) (h2 : regs ≤ 9223372036854775807) :
    Calls Tryd.prog 122 #[.agg #[.slice g1 g2 g3, .slice f1 f2 f3, .string nm, .int .i64 params, .int .i64 regs, .slice b1 b2 b3, .slice a1 a2 a3], .agg #[.bool r, .int .i64 n]] w fun e w' => e = .returned (.int .i64 (valE regs r n)) ∧ Below w.heap.size w w' := by
  cases r
  · go_enter Tryd.func122, Tryd.ntmps122
    go_wp2
    go_ret
    exact ⟨rfl, by repeat (first | with_reducible exact Below.refl _ _ | with_reducible exact HB3.out | with_reducible refine Below.drew ?_ | with_reducible refine below_drewN ?_ _ | with_reducible refine Below.setCell ?_ ?_ _ | with_reducible refine Below.alloc ?_ ?_ _ | with_reducible exact HB2.out | with_reducible exact HB1.out | with_reducible refine Below.trans ?_ (Below.mono hb3 ?_) | with_reducible refine Below.trans ?_ (Below.mono hb5 ?_) | with_reducible refine Below.trans ?_ (Below.mono hb4 ?_) | omega | (simp; omega) | simp)⟩
  · by_cases h : 0 ≤ n ∧ n ≤ regs - 1
    · have hw : wthn n 0 (regs - 1) = true := by simp [wthn]; omega
      have HV : Hid (valE regs true n = 0) := by show _ = _; unfold valE; rw [if_neg (by simp; omega)]
      go_enter Tryd.func122, Tryd.ntmps122
      go_wp2_with (go_at_call 46; refine (within_any _ _ _ _).mono ?_; rintro e w1 ⟨rfl, rfl⟩)
      go_ret
      refine ⟨by rw [HV.out]; rfl, ?_⟩
      repeat (first | with_reducible exact Below.refl _ _ | with_reducible exact HB3.out | with_reducible refine Below.drew ?_ | with_reducible refine below_drewN ?_ _ | with_reducible refine Below.setCell ?_ ?_ _ | with_reducible refine Below.alloc ?_ ?_ _ | with_reducible exact HB2.out | with_reducible exact HB1.out | with_reducible refine Below.trans ?_ (Below.mono hb3 ?_) | with_reducible refine Below.trans ?_ (Below.mono hb5 ?_) | with_reducible refine Below.trans ?_ (Below.mono hb4 ?_) | omega | (simp; omega) | simp)
    · have hw : wthn n 0 (regs - 1) = false := by simp only [wthn, decide_eq_false_iff_not]; exact h
      have HV : Hid (valE regs true n = 3) := by show _ = _; unfold valE; rw [if_pos ⟨rfl, h⟩]
      clear h
      go_enter Tryd.func122, Tryd.ntmps122
      go_wp2_with (go_at_call 46; refine (within_any _ _ _ _).mono ?_; rintro e w1 ⟨rfl, rfl⟩)
      go_ret
      refine ⟨by rw [HV.out]; rfl, ?_⟩
      repeat (first | with_reducible exact Below.refl _ _ | with_reducible exact HB3.out | with_reducible refine Below.drew ?_ | with_reducible refine below_drewN ?_ _ | with_reducible refine Below.setCell ?_ ?_ _ | with_reducible refine Below.alloc ?_ ?_ _ | with_reducible exact HB2.out | with_reducible exact HB1.out | with_reducible refine Below.trans ?_ (Below.mono hb3 ?_) | with_reducible refine Below.trans ?_ (Below.mono hb5 ?_) | with_reducible refine Below.trans ?_ (Below.mono hb4 ?_) | omega | (simp; omega) | simp)
set_option maxHeartbeats 400000 in
theorem dst_any (g1 f1 b1 a1 : Option Addr) (g2 g3 f2 f3 b2 b3 a2 a3 : Nat) (nm : ByteArray) (params regs n : Int) (w : World) (h1 : 0 ≤ regs) (h2 : regs ≤ 9223372036854775807) :
    Calls Tryd.prog 123 #[.agg #[.slice g1 g2 g3, .slice f1 f2 f3, .string nm, .int .i64 params, .int .i64 regs, .slice b1 b2 b3, .slice a1 a2 a3], .int .i64 n] w fun e w' => e = .returned (.int .i64 (dstE regs n)) ∧ Below w.heap.size w w' := by
  by_cases h : 0 ≤ n ∧ n ≤ regs - 1
  · have hw : wthn n 0 (regs - 1) = true := by simp [wthn]; omega
    have HV : Hid (dstE regs n = 0) := by show _ = _; unfold dstE; rw [if_pos h]
    go_enter Tryd.func123, Tryd.ntmps123
    go_wp2_with (go_at_call 46; refine (within_any _ _ _ _).mono ?_; rintro e w1 ⟨rfl, rfl⟩)
    go_ret
    refine ⟨by rw [HV.out]; rfl, ?_⟩
    repeat (first | with_reducible exact Below.refl _ _ | with_reducible exact HB3.out | with_reducible refine Below.drew ?_ | with_reducible refine below_drewN ?_ _ | with_reducible refine Below.setCell ?_ ?_ _ | with_reducible refine Below.alloc ?_ ?_ _ | with_reducible exact HB2.out | with_reducible exact HB1.out | with_reducible refine Below.trans ?_ (Below.mono hb3 ?_) | with_reducible refine Below.trans ?_ (Below.mono hb5 ?_) | with_reducible refine Below.trans ?_ (Below.mono hb4 ?_) | omega | (simp; omega) | simp)
  · have hw : wthn n 0 (regs - 1) = false := by simp only [wthn, decide_eq_false_iff_not]; exact h
    have HV : Hid (dstE regs n = 3) := by show _ = _; unfold dstE; rw [if_neg h]
    clear h
    go_enter Tryd.func123, Tryd.ntmps123
    go_wp2_with (go_at_call 46; refine (within_any _ _ _ _).mono ?_; rintro e w1 ⟨rfl, rfl⟩)
    go_ret
    refine ⟨by rw [HV.out]; rfl, ?_⟩
    repeat (first | with_reducible exact Below.refl _ _ | with_reducible exact HB3.out | with_reducible refine Below.drew ?_ | with_reducible refine below_drewN ?_ _ | with_reducible refine Below.setCell ?_ ?_ _ | with_reducible refine Below.alloc ?_ ?_ _ | with_reducible exact HB2.out | with_reducible exact HB1.out | with_reducible refine Below.trans ?_ (Below.mono hb3 ?_) | with_reducible refine Below.trans ?_ (Below.mono hb5 ?_) | with_reducible refine Below.trans ?_ (Below.mono hb4 ?_) | omega | (simp; omega) | simp)

/-- a byte that may stand in a name, at its head or not -/
def nameC (c : Int) (first : Bool) : Bool := (decide (97 ≤ c) && decide (c ≤ 122)) || (decide (65 ≤ c) && decide (c ≤ 90)) || c == 95 || (!first && (decide (48 ≤ c) && decide (c ≤ 57)))
theorem nameC_iff (c : Int) (f : Bool) : nameC c f = true ↔ (97 ≤ c ∧ c ≤ 122) ∨ (65 ≤ c ∧ c ≤ 90) ∨ c = 95 ∨ (f = false ∧ 48 ≤ c ∧ c ≤ 57) := by
  unfold nameC
  cases f <;> simp [or_assoc]
def nameB (s : ByteArray) : Bool := decide (1 ≤ s.size ∧ s.size ≤ 12 ∧ ∀ i (h : i < s.size), nameC s[i].toNat (decide (i = 0)) = true)
set_option maxHeartbeats 1000000 in
theorem name_any (s : ByteArray) (w : World) (hs : s.size ≤ maxLen) :
    Calls Tryd.prog 44 #[.string s] w fun e w' => e = .returned (.bool (nameB s)) ∧ w = w' := by
  unfold maxLen at hs
  by_cases hz : 1 ≤ s.size ∧ s.size ≤ 12
  · obtain ⟨hz1, hz2⟩ := hz
    go_enter Tryd.func44, Tryd.ntmps44
    go_wp2
    go_loop [15] (fun i => ∃ k : Nat, k ≤ s.size ∧ i = .int .i64 k ∧ ∀ j (h : j < s.size), j < k → nameC s[j].toNat (decide (j = 0)) = true) (fun i => s.size - (intOf i).toNat)
    case atStart => exact ⟨0, by omega, rfl, fun j _ hj => by omega⟩
    case round =>
      obtain ⟨k, hk, rfl, hV⟩ := hrel
      have HV : Hid (∀ j (h : j < s.size), j < k → nameC s[j].toNat (decide (j = 0)) = true) := hV
      clear hV
      by_cases hlt : k < s.size
      · have Hlt : Hid (k < s.size) := hlt
        have HY : Hid (nameC s[k].toNat (decide (k = 0)) = true → ∀ j (h : j < s.size), j < k + 1 → nameC s[j].toNat (decide (j = 0)) = true) := by
          show _ → _
          intro hy j hj hjk
          by_cases hj2 : j < k
          · exact HV.out j hj hj2
          · obtain rfl : j = k := by omega
            exact hy
        have HN : Hid (¬ nameC s[k].toNat (decide (k = 0)) = true → nameB s = false) := by
          show _ → _
          intro hn
          unfold nameB
          rw [decide_eq_false]
          rintro ⟨_, _, hall⟩
          exact hn (hall k hlt)
        have HI : Hid (nameC s[k].toNat (decide (k = 0)) = true ↔ (97 ≤ (s[k].toNat : Int) ∧ (s[k].toNat : Int) ≤ 122) ∨ (65 ≤ (s[k].toNat : Int) ∧ (s[k].toNat : Int) ≤ 90) ∨ (s[k].toNat : Int) = 95 ∨ (decide (k = 0) = false ∧ 48 ≤ (s[k].toNat : Int) ∧ (s[k].toNat : Int) ≤ 57)) := nameC_iff _ _
        clear HV
        go_wp2
        all_goals first
          | (refine ⟨⟨k + 1, by omega, by go_num, HY.out (HI.out.2 ?_)⟩, by simp [intOf]; omega⟩
             clear HY HN HI
             simp at *
             omega)
          | (go_ret
             refine ⟨?_, rfl⟩
             rw [HN.out (fun h => by
               have h2 := HI.out.1 h
               clear HY HN HI h
               simp at *
               omega)]
             rfl)
      · go_wp2
        go_ret
        refine ⟨?_, rfl⟩
        rw [show nameB s = true from ?_]
        · rfl
        · unfold nameB
          rw [decide_eq_true_eq]
          exact ⟨by omega, by omega, fun i hi => HV.out i hi (by omega)⟩
  · have HN : Hid (nameB s = false) := by
      show _ = _
      unfold nameB
      rw [decide_eq_false]
      rintro ⟨a, b, _⟩
      exact hz ⟨a, b⟩
    by_cases h1 : s.size < 1
    · clear hz
      go_enter Tryd.func44, Tryd.ntmps44
      go_wp2
      go_ret
      exact ⟨by rw [HN.out]; rfl, rfl⟩
    · have h2 : 12 < s.size := by omega
      clear hz
      go_enter Tryd.func44, Tryd.ntmps44
      go_wp2
      go_ret
      exact ⟨by rw [HN.out]; rfl, rfl⟩
end Go.Proofs.YteckkdmgkikeaaaDoor
