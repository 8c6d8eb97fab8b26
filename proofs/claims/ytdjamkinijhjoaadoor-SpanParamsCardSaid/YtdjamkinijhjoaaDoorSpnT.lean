/-
  The contract of the reference's spanTest.
-/
import Derived.WalkKit
import Derived.WalkSpells
import Derived.WalkLawsBesides
import Derived.Test.YtdjamkinijhjoaaDoorJRunV
namespace Go.Proofs.YtdjamkinijhjoaaDoor
open Go.RowKit

set_option maxRecDepth 100000 in
set_option maxHeartbeats 2000000 in
theorem rTest_12 (a b c d : Int) (w : World) :
    Calls Tryd.prog 64 #[.int .i64 12, .agg #[.int .i64 a, .int .i64 b, .bool true], .agg #[.int .i64 c, .int .i64 d, .bool true]] w fun e w' => e = .returned (.agg #[.int .i64 (tstS 12 ⟨a, b, true⟩ ⟨c, d, true⟩).lo, .int .i64 (tstS 12 ⟨a, b, true⟩ ⟨c, d, true⟩).hi, .bool (tstS 12 ⟨a, b, true⟩ ⟨c, d, true⟩).has]) ∧ Below w.heap.size w w' := by
  by_cases hab : a = b
  · subst hab
    by_cases hcd : c = d
    · subst hcd
      by_cases hac : a = c
      · subst hac
        have HD := hidI (show tstS 12 ⟨a, a, true⟩ ⟨a, a, true⟩ = ofS 1 1 from by unfold tstS sameSp apartB sureS; simp [*])
        go_enter Tryd.func64, Tryd.ntmps64
        go_wp2_with (go_at_call 59; refine (rOf_any _ _ _).mono ?_; rintro e w1 ⟨rfl, rfl⟩)
        all_goals
          refine bodyPost_ret ?_ rfl ⟨by rw [HD.out], ?_⟩
          · simp [results, Tryd.results64, go_sem, ofS]
          · repeat (first | with_reducible exact Below.refl _ _ | with_reducible exact HB3.out | with_reducible refine Below.drew ?_ | with_reducible refine below_drewN ?_ _ | with_reducible refine Below.setCell ?_ ?_ _ | with_reducible refine Below.alloc ?_ ?_ _ | with_reducible exact HB2.out | with_reducible exact HB1.out | with_reducible refine Below.trans ?_ (Below.mono hb3 ?_) | with_reducible refine Below.trans ?_ (Below.mono hb5 ?_) | with_reducible refine Below.trans ?_ (Below.mono hb4 ?_) | omega | (simp; omega) | simp)
      · rcases Int.lt_or_gt_of_ne hac with h | h
        · have hn : ¬ c < a := by omega
          have HD := hidI (show tstS 12 ⟨a, a, true⟩ ⟨c, c, true⟩ = ofS 0 0 from by unfold tstS sameSp apartB sureS; simp [*])
          go_enter Tryd.func64, Tryd.ntmps64
          go_wp2_with (go_at_call 59; refine (rOf_any _ _ _).mono ?_; rintro e w1 ⟨rfl, rfl⟩)
          all_goals
            refine bodyPost_ret ?_ rfl ⟨by rw [HD.out], ?_⟩
            · simp [results, Tryd.results64, go_sem, ofS]
            · repeat (first | with_reducible exact Below.refl _ _ | with_reducible exact HB3.out | with_reducible refine Below.drew ?_ | with_reducible refine below_drewN ?_ _ | with_reducible refine Below.setCell ?_ ?_ _ | with_reducible refine Below.alloc ?_ ?_ _ | with_reducible exact HB2.out | with_reducible exact HB1.out | with_reducible refine Below.trans ?_ (Below.mono hb3 ?_) | with_reducible refine Below.trans ?_ (Below.mono hb5 ?_) | with_reducible refine Below.trans ?_ (Below.mono hb4 ?_) | omega | (simp; omega) | simp)
        · have hn : ¬ a < c := by omega
          have HD := hidI (show tstS 12 ⟨a, a, true⟩ ⟨c, c, true⟩ = ofS 0 0 from by unfold tstS sameSp apartB sureS; simp [*])
          go_enter Tryd.func64, Tryd.ntmps64
          go_wp2_with (go_at_call 59; refine (rOf_any _ _ _).mono ?_; rintro e w1 ⟨rfl, rfl⟩)
          all_goals
            refine bodyPost_ret ?_ rfl ⟨by rw [HD.out], ?_⟩
            · simp [results, Tryd.results64, go_sem, ofS]
            · repeat (first | with_reducible exact Below.refl _ _ | with_reducible exact HB3.out | with_reducible refine Below.drew ?_ | with_reducible refine below_drewN ?_ _ | with_reducible refine Below.setCell ?_ ?_ _ | with_reducible refine Below.alloc ?_ ?_ _ | with_reducible exact HB2.out | with_reducible exact HB1.out | with_reducible refine Below.trans ?_ (Below.mono hb3 ?_) | with_reducible refine Below.trans ?_ (Below.mono hb5 ?_) | with_reducible refine Below.trans ?_ (Below.mono hb4 ?_) | omega | (simp; omega) | simp)
    · by_cases h1 : a < c
      · have HD := hidI (show tstS 12 ⟨a, a, true⟩ ⟨c, d, true⟩ = ofS 0 0 from by unfold tstS sameSp apartB sureS; simp [*])
        go_enter Tryd.func64, Tryd.ntmps64
        go_wp2_with (go_at_call 59; refine (rOf_any _ _ _).mono ?_; rintro e w1 ⟨rfl, rfl⟩)
        all_goals
          refine bodyPost_ret ?_ rfl ⟨by rw [HD.out], ?_⟩
          · simp [results, Tryd.results64, go_sem, ofS]
          · repeat (first | with_reducible exact Below.refl _ _ | with_reducible exact HB3.out | with_reducible refine Below.drew ?_ | with_reducible refine below_drewN ?_ _ | with_reducible refine Below.setCell ?_ ?_ _ | with_reducible refine Below.alloc ?_ ?_ _ | with_reducible exact HB2.out | with_reducible exact HB1.out | with_reducible refine Below.trans ?_ (Below.mono hb3 ?_) | with_reducible refine Below.trans ?_ (Below.mono hb5 ?_) | with_reducible refine Below.trans ?_ (Below.mono hb4 ?_) | omega | (simp; omega) | simp)
      · by_cases h2 : d < a
        · have HD := hidI (show tstS 12 ⟨a, a, true⟩ ⟨c, d, true⟩ = ofS 0 0 from by unfold tstS sameSp apartB sureS; simp [*])
          go_enter Tryd.func64, Tryd.ntmps64
          go_wp2_with (go_at_call 59; refine (rOf_any _ _ _).mono ?_; rintro e w1 ⟨rfl, rfl⟩)
          all_goals
            refine bodyPost_ret ?_ rfl ⟨by rw [HD.out], ?_⟩
            · simp [results, Tryd.results64, go_sem, ofS]
            · repeat (first | with_reducible exact Below.refl _ _ | with_reducible exact HB3.out | with_reducible refine Below.drew ?_ | with_reducible refine below_drewN ?_ _ | with_reducible refine Below.setCell ?_ ?_ _ | with_reducible refine Below.alloc ?_ ?_ _ | with_reducible exact HB2.out | with_reducible exact HB1.out | with_reducible refine Below.trans ?_ (Below.mono hb3 ?_) | with_reducible refine Below.trans ?_ (Below.mono hb5 ?_) | with_reducible refine Below.trans ?_ (Below.mono hb4 ?_) | omega | (simp; omega) | simp)
        · have HD := hidI (show tstS 12 ⟨a, a, true⟩ ⟨c, d, true⟩ = ofS 0 1 from by unfold tstS sameSp apartB sureS; simp [*])
          go_enter Tryd.func64, Tryd.ntmps64
          go_wp2_with (go_at_call 59; refine (rOf_any _ _ _).mono ?_; rintro e w1 ⟨rfl, rfl⟩)
          all_goals
            refine bodyPost_ret ?_ rfl ⟨by rw [HD.out], ?_⟩
            · simp [results, Tryd.results64, go_sem, ofS]
            · repeat (first | with_reducible exact Below.refl _ _ | with_reducible exact HB3.out | with_reducible refine Below.drew ?_ | with_reducible refine below_drewN ?_ _ | with_reducible refine Below.setCell ?_ ?_ _ | with_reducible refine Below.alloc ?_ ?_ _ | with_reducible exact HB2.out | with_reducible exact HB1.out | with_reducible refine Below.trans ?_ (Below.mono hb3 ?_) | with_reducible refine Below.trans ?_ (Below.mono hb5 ?_) | with_reducible refine Below.trans ?_ (Below.mono hb4 ?_) | omega | (simp; omega) | simp)
  · by_cases h1 : b < c
    · have HD := hidI (show tstS 12 ⟨a, b, true⟩ ⟨c, d, true⟩ = ofS 0 0 from by unfold tstS sameSp apartB sureS; simp [*])
      go_enter Tryd.func64, Tryd.ntmps64
      go_wp2_with (go_at_call 59; refine (rOf_any _ _ _).mono ?_; rintro e w1 ⟨rfl, rfl⟩)
      all_goals
        refine bodyPost_ret ?_ rfl ⟨by rw [HD.out], ?_⟩
        · simp [results, Tryd.results64, go_sem, ofS]
        · repeat (first | with_reducible exact Below.refl _ _ | with_reducible exact HB3.out | with_reducible refine Below.drew ?_ | with_reducible refine below_drewN ?_ _ | with_reducible refine Below.setCell ?_ ?_ _ | with_reducible refine Below.alloc ?_ ?_ _ | with_reducible exact HB2.out | with_reducible exact HB1.out | with_reducible refine Below.trans ?_ (Below.mono hb3 ?_) | with_reducible refine Below.trans ?_ (Below.mono hb5 ?_) | with_reducible refine Below.trans ?_ (Below.mono hb4 ?_) | omega | (simp; omega) | simp)
    · by_cases h2 : d < a
      · have HD := hidI (show tstS 12 ⟨a, b, true⟩ ⟨c, d, true⟩ = ofS 0 0 from by unfold tstS sameSp apartB sureS; simp [*])
        go_enter Tryd.func64, Tryd.ntmps64
        go_wp2_with (go_at_call 59; refine (rOf_any _ _ _).mono ?_; rintro e w1 ⟨rfl, rfl⟩)
        all_goals
          refine bodyPost_ret ?_ rfl ⟨by rw [HD.out], ?_⟩
          · simp [results, Tryd.results64, go_sem, ofS]
          · repeat (first | with_reducible exact Below.refl _ _ | with_reducible exact HB3.out | with_reducible refine Below.drew ?_ | with_reducible refine below_drewN ?_ _ | with_reducible refine Below.setCell ?_ ?_ _ | with_reducible refine Below.alloc ?_ ?_ _ | with_reducible exact HB2.out | with_reducible exact HB1.out | with_reducible refine Below.trans ?_ (Below.mono hb3 ?_) | with_reducible refine Below.trans ?_ (Below.mono hb5 ?_) | with_reducible refine Below.trans ?_ (Below.mono hb4 ?_) | omega | (simp; omega) | simp)
      · have HD := hidI (show tstS 12 ⟨a, b, true⟩ ⟨c, d, true⟩ = ofS 0 1 from by unfold tstS sameSp apartB sureS; simp [*])
        go_enter Tryd.func64, Tryd.ntmps64
        go_wp2_with (go_at_call 59; refine (rOf_any _ _ _).mono ?_; rintro e w1 ⟨rfl, rfl⟩)
        all_goals
          refine bodyPost_ret ?_ rfl ⟨by rw [HD.out], ?_⟩
          · simp [results, Tryd.results64, go_sem, ofS]
          · repeat (first | with_reducible exact Below.refl _ _ | with_reducible exact HB3.out | with_reducible refine Below.drew ?_ | with_reducible refine below_drewN ?_ _ | with_reducible refine Below.setCell ?_ ?_ _ | with_reducible refine Below.alloc ?_ ?_ _ | with_reducible exact HB2.out | with_reducible exact HB1.out | with_reducible refine Below.trans ?_ (Below.mono hb3 ?_) | with_reducible refine Below.trans ?_ (Below.mono hb5 ?_) | with_reducible refine Below.trans ?_ (Below.mono hb4 ?_) | omega | (simp; omega) | simp)
set_option maxRecDepth 100000 in
set_option maxHeartbeats 2000000 in
theorem rTest_13 (a b c d : Int) (w : World) :
    Calls Tryd.prog 64 #[.int .i64 13, .agg #[.int .i64 a, .int .i64 b, .bool true], .agg #[.int .i64 c, .int .i64 d, .bool true]] w fun e w' => e = .returned (.agg #[.int .i64 (tstS 13 ⟨a, b, true⟩ ⟨c, d, true⟩).lo, .int .i64 (tstS 13 ⟨a, b, true⟩ ⟨c, d, true⟩).hi, .bool (tstS 13 ⟨a, b, true⟩ ⟨c, d, true⟩).has]) ∧ Below w.heap.size w w' := by
  by_cases hab : a = b
  · subst hab
    by_cases hcd : c = d
    · subst hcd
      by_cases hac : a = c
      · subst hac
        have HD := hidI (show tstS 13 ⟨a, a, true⟩ ⟨a, a, true⟩ = ofS 0 0 from by unfold tstS sameSp apartB sureS; simp [*])
        go_enter Tryd.func64, Tryd.ntmps64
        go_wp2_with (go_at_call 59; refine (rOf_any _ _ _).mono ?_; rintro e w1 ⟨rfl, rfl⟩)
        all_goals
          refine bodyPost_ret ?_ rfl ⟨by rw [HD.out], ?_⟩
          · simp [results, Tryd.results64, go_sem, ofS]
          · repeat (first | with_reducible exact Below.refl _ _ | with_reducible exact HB3.out | with_reducible refine Below.drew ?_ | with_reducible refine below_drewN ?_ _ | with_reducible refine Below.setCell ?_ ?_ _ | with_reducible refine Below.alloc ?_ ?_ _ | with_reducible exact HB2.out | with_reducible exact HB1.out | with_reducible refine Below.trans ?_ (Below.mono hb3 ?_) | with_reducible refine Below.trans ?_ (Below.mono hb5 ?_) | with_reducible refine Below.trans ?_ (Below.mono hb4 ?_) | omega | (simp; omega) | simp)
      · rcases Int.lt_or_gt_of_ne hac with h | h
        · have hn : ¬ c < a := by omega
          have HD := hidI (show tstS 13 ⟨a, a, true⟩ ⟨c, c, true⟩ = ofS 1 1 from by unfold tstS sameSp apartB sureS; simp [*])
          go_enter Tryd.func64, Tryd.ntmps64
          go_wp2_with (go_at_call 59; refine (rOf_any _ _ _).mono ?_; rintro e w1 ⟨rfl, rfl⟩)
          all_goals
            refine bodyPost_ret ?_ rfl ⟨by rw [HD.out], ?_⟩
            · simp [results, Tryd.results64, go_sem, ofS]
            · repeat (first | with_reducible exact Below.refl _ _ | with_reducible exact HB3.out | with_reducible refine Below.drew ?_ | with_reducible refine below_drewN ?_ _ | with_reducible refine Below.setCell ?_ ?_ _ | with_reducible refine Below.alloc ?_ ?_ _ | with_reducible exact HB2.out | with_reducible exact HB1.out | with_reducible refine Below.trans ?_ (Below.mono hb3 ?_) | with_reducible refine Below.trans ?_ (Below.mono hb5 ?_) | with_reducible refine Below.trans ?_ (Below.mono hb4 ?_) | omega | (simp; omega) | simp)
        · have hn : ¬ a < c := by omega
          have HD := hidI (show tstS 13 ⟨a, a, true⟩ ⟨c, c, true⟩ = ofS 1 1 from by unfold tstS sameSp apartB sureS; simp [*])
          go_enter Tryd.func64, Tryd.ntmps64
          go_wp2_with (go_at_call 59; refine (rOf_any _ _ _).mono ?_; rintro e w1 ⟨rfl, rfl⟩)
          all_goals
            refine bodyPost_ret ?_ rfl ⟨by rw [HD.out], ?_⟩
            · simp [results, Tryd.results64, go_sem, ofS]
            · repeat (first | with_reducible exact Below.refl _ _ | with_reducible exact HB3.out | with_reducible refine Below.drew ?_ | with_reducible refine below_drewN ?_ _ | with_reducible refine Below.setCell ?_ ?_ _ | with_reducible refine Below.alloc ?_ ?_ _ | with_reducible exact HB2.out | with_reducible exact HB1.out | with_reducible refine Below.trans ?_ (Below.mono hb3 ?_) | with_reducible refine Below.trans ?_ (Below.mono hb5 ?_) | with_reducible refine Below.trans ?_ (Below.mono hb4 ?_) | omega | (simp; omega) | simp)
    · by_cases h1 : a < c
      · have HD := hidI (show tstS 13 ⟨a, a, true⟩ ⟨c, d, true⟩ = ofS 1 1 from by unfold tstS sameSp apartB sureS; simp [*])
        go_enter Tryd.func64, Tryd.ntmps64
        go_wp2_with (go_at_call 59; refine (rOf_any _ _ _).mono ?_; rintro e w1 ⟨rfl, rfl⟩)
        all_goals
          refine bodyPost_ret ?_ rfl ⟨by rw [HD.out], ?_⟩
          · simp [results, Tryd.results64, go_sem, ofS]
          · repeat (first | with_reducible exact Below.refl _ _ | with_reducible exact HB3.out | with_reducible refine Below.drew ?_ | with_reducible refine below_drewN ?_ _ | with_reducible refine Below.setCell ?_ ?_ _ | with_reducible refine Below.alloc ?_ ?_ _ | with_reducible exact HB2.out | with_reducible exact HB1.out | with_reducible refine Below.trans ?_ (Below.mono hb3 ?_) | with_reducible refine Below.trans ?_ (Below.mono hb5 ?_) | with_reducible refine Below.trans ?_ (Below.mono hb4 ?_) | omega | (simp; omega) | simp)
      · by_cases h2 : d < a
        · have HD := hidI (show tstS 13 ⟨a, a, true⟩ ⟨c, d, true⟩ = ofS 1 1 from by unfold tstS sameSp apartB sureS; simp [*])
          go_enter Tryd.func64, Tryd.ntmps64
          go_wp2_with (go_at_call 59; refine (rOf_any _ _ _).mono ?_; rintro e w1 ⟨rfl, rfl⟩)
          all_goals
            refine bodyPost_ret ?_ rfl ⟨by rw [HD.out], ?_⟩
            · simp [results, Tryd.results64, go_sem, ofS]
            · repeat (first | with_reducible exact Below.refl _ _ | with_reducible exact HB3.out | with_reducible refine Below.drew ?_ | with_reducible refine below_drewN ?_ _ | with_reducible refine Below.setCell ?_ ?_ _ | with_reducible refine Below.alloc ?_ ?_ _ | with_reducible exact HB2.out | with_reducible exact HB1.out | with_reducible refine Below.trans ?_ (Below.mono hb3 ?_) | with_reducible refine Below.trans ?_ (Below.mono hb5 ?_) | with_reducible refine Below.trans ?_ (Below.mono hb4 ?_) | omega | (simp; omega) | simp)
        · have HD := hidI (show tstS 13 ⟨a, a, true⟩ ⟨c, d, true⟩ = ofS 0 1 from by unfold tstS sameSp apartB sureS; simp [*])
          go_enter Tryd.func64, Tryd.ntmps64
          go_wp2_with (go_at_call 59; refine (rOf_any _ _ _).mono ?_; rintro e w1 ⟨rfl, rfl⟩)
          all_goals
            refine bodyPost_ret ?_ rfl ⟨by rw [HD.out], ?_⟩
            · simp [results, Tryd.results64, go_sem, ofS]
            · repeat (first | with_reducible exact Below.refl _ _ | with_reducible exact HB3.out | with_reducible refine Below.drew ?_ | with_reducible refine below_drewN ?_ _ | with_reducible refine Below.setCell ?_ ?_ _ | with_reducible refine Below.alloc ?_ ?_ _ | with_reducible exact HB2.out | with_reducible exact HB1.out | with_reducible refine Below.trans ?_ (Below.mono hb3 ?_) | with_reducible refine Below.trans ?_ (Below.mono hb5 ?_) | with_reducible refine Below.trans ?_ (Below.mono hb4 ?_) | omega | (simp; omega) | simp)
  · by_cases h1 : b < c
    · have HD := hidI (show tstS 13 ⟨a, b, true⟩ ⟨c, d, true⟩ = ofS 1 1 from by unfold tstS sameSp apartB sureS; simp [*])
      go_enter Tryd.func64, Tryd.ntmps64
      go_wp2_with (go_at_call 59; refine (rOf_any _ _ _).mono ?_; rintro e w1 ⟨rfl, rfl⟩)
      all_goals
        refine bodyPost_ret ?_ rfl ⟨by rw [HD.out], ?_⟩
        · simp [results, Tryd.results64, go_sem, ofS]
        · repeat (first | with_reducible exact Below.refl _ _ | with_reducible exact HB3.out | with_reducible refine Below.drew ?_ | with_reducible refine below_drewN ?_ _ | with_reducible refine Below.setCell ?_ ?_ _ | with_reducible refine Below.alloc ?_ ?_ _ | with_reducible exact HB2.out | with_reducible exact HB1.out | with_reducible refine Below.trans ?_ (Below.mono hb3 ?_) | with_reducible refine Below.trans ?_ (Below.mono hb5 ?_) | with_reducible refine Below.trans ?_ (Below.mono hb4 ?_) | omega | (simp; omega) | simp)
    · by_cases h2 : d < a
      · have HD := hidI (show tstS 13 ⟨a, b, true⟩ ⟨c, d, true⟩ = ofS 1 1 from by unfold tstS sameSp apartB sureS; simp [*])
        go_enter Tryd.func64, Tryd.ntmps64
        go_wp2_with (go_at_call 59; refine (rOf_any _ _ _).mono ?_; rintro e w1 ⟨rfl, rfl⟩)
        all_goals
          refine bodyPost_ret ?_ rfl ⟨by rw [HD.out], ?_⟩
          · simp [results, Tryd.results64, go_sem, ofS]
          · repeat (first | with_reducible exact Below.refl _ _ | with_reducible exact HB3.out | with_reducible refine Below.drew ?_ | with_reducible refine below_drewN ?_ _ | with_reducible refine Below.setCell ?_ ?_ _ | with_reducible refine Below.alloc ?_ ?_ _ | with_reducible exact HB2.out | with_reducible exact HB1.out | with_reducible refine Below.trans ?_ (Below.mono hb3 ?_) | with_reducible refine Below.trans ?_ (Below.mono hb5 ?_) | with_reducible refine Below.trans ?_ (Below.mono hb4 ?_) | omega | (simp; omega) | simp)
      · have HD := hidI (show tstS 13 ⟨a, b, true⟩ ⟨c, d, true⟩ = ofS 0 1 from by unfold tstS sameSp apartB sureS; simp [*])
        go_enter Tryd.func64, Tryd.ntmps64
        go_wp2_with (go_at_call 59; refine (rOf_any _ _ _).mono ?_; rintro e w1 ⟨rfl, rfl⟩)
        all_goals
          refine bodyPost_ret ?_ rfl ⟨by rw [HD.out], ?_⟩
          · simp [results, Tryd.results64, go_sem, ofS]
          · repeat (first | with_reducible exact Below.refl _ _ | with_reducible exact HB3.out | with_reducible refine Below.drew ?_ | with_reducible refine below_drewN ?_ _ | with_reducible refine Below.setCell ?_ ?_ _ | with_reducible refine Below.alloc ?_ ?_ _ | with_reducible exact HB2.out | with_reducible exact HB1.out | with_reducible refine Below.trans ?_ (Below.mono hb3 ?_) | with_reducible refine Below.trans ?_ (Below.mono hb5 ?_) | with_reducible refine Below.trans ?_ (Below.mono hb4 ?_) | omega | (simp; omega) | simp)
set_option maxRecDepth 100000 in
set_option maxHeartbeats 2000000 in
theorem rTest_14 (a b c d : Int) (w : World) :
    Calls Tryd.prog 64 #[.int .i64 14, .agg #[.int .i64 a, .int .i64 b, .bool true], .agg #[.int .i64 c, .int .i64 d, .bool true]] w fun e w' => e = .returned (.agg #[.int .i64 (tstS 14 ⟨a, b, true⟩ ⟨c, d, true⟩).lo, .int .i64 (tstS 14 ⟨a, b, true⟩ ⟨c, d, true⟩).hi, .bool (tstS 14 ⟨a, b, true⟩ ⟨c, d, true⟩).has]) ∧ Below w.heap.size w w' := by
  by_cases h1 : b < c
  · have HD := hidI (show tstS 14 ⟨a, b, true⟩ ⟨c, d, true⟩ = ofS 1 1 from by unfold tstS sameSp apartB sureS; simp [*])
    go_enter Tryd.func64, Tryd.ntmps64
    go_wp2_with fail
    go_quiet (fail)
    go_wp2_with (go_at_call 59; refine (rOf_any _ _ _).mono ?_; rintro e w1 ⟨rfl, rfl⟩)
    all_goals
      refine bodyPost_ret ?_ rfl ⟨by rw [HD.out], ?_⟩
      · simp [results, Tryd.results64, go_sem, ofS]
      · repeat (first | with_reducible exact Below.refl _ _ | with_reducible exact HB3.out | with_reducible refine Below.drew ?_ | with_reducible refine below_drewN ?_ _ | with_reducible refine Below.setCell ?_ ?_ _ | with_reducible refine Below.alloc ?_ ?_ _ | with_reducible exact HB2.out | with_reducible exact HB1.out | with_reducible refine Below.trans ?_ (Below.mono hb3 ?_) | with_reducible refine Below.trans ?_ (Below.mono hb5 ?_) | with_reducible refine Below.trans ?_ (Below.mono hb4 ?_) | omega | (simp; omega) | simp)
  · by_cases h2 : d ≤ a
    · have HD := hidI (show tstS 14 ⟨a, b, true⟩ ⟨c, d, true⟩ = ofS 0 0 from by unfold tstS sameSp apartB sureS; simp [*])
      go_enter Tryd.func64, Tryd.ntmps64
      go_wp2_with fail
      go_quiet (fail)
      go_wp2_with (go_at_call 59; refine (rOf_any _ _ _).mono ?_; rintro e w1 ⟨rfl, rfl⟩)
      all_goals
        refine bodyPost_ret ?_ rfl ⟨by rw [HD.out], ?_⟩
        · simp [results, Tryd.results64, go_sem, ofS]
        · repeat (first | with_reducible exact Below.refl _ _ | with_reducible exact HB3.out | with_reducible refine Below.drew ?_ | with_reducible refine below_drewN ?_ _ | with_reducible refine Below.setCell ?_ ?_ _ | with_reducible refine Below.alloc ?_ ?_ _ | with_reducible exact HB2.out | with_reducible exact HB1.out | with_reducible refine Below.trans ?_ (Below.mono hb3 ?_) | with_reducible refine Below.trans ?_ (Below.mono hb5 ?_) | with_reducible refine Below.trans ?_ (Below.mono hb4 ?_) | omega | (simp; omega) | simp)
    · have HD := hidI (show tstS 14 ⟨a, b, true⟩ ⟨c, d, true⟩ = ofS 0 1 from by unfold tstS sameSp apartB sureS; simp [*])
      go_enter Tryd.func64, Tryd.ntmps64
      go_wp2_with fail
      go_quiet (fail)
      go_wp2_with (go_at_call 59; refine (rOf_any _ _ _).mono ?_; rintro e w1 ⟨rfl, rfl⟩)
      all_goals
        refine bodyPost_ret ?_ rfl ⟨by rw [HD.out], ?_⟩
        · simp [results, Tryd.results64, go_sem, ofS]
        · repeat (first | with_reducible exact Below.refl _ _ | with_reducible exact HB3.out | with_reducible refine Below.drew ?_ | with_reducible refine below_drewN ?_ _ | with_reducible refine Below.setCell ?_ ?_ _ | with_reducible refine Below.alloc ?_ ?_ _ | with_reducible exact HB2.out | with_reducible exact HB1.out | with_reducible refine Below.trans ?_ (Below.mono hb3 ?_) | with_reducible refine Below.trans ?_ (Below.mono hb5 ?_) | with_reducible refine Below.trans ?_ (Below.mono hb4 ?_) | omega | (simp; omega) | simp)
set_option maxRecDepth 100000 in
set_option maxHeartbeats 2000000 in
theorem rTest_15 (a b c d : Int) (w : World) :
    Calls Tryd.prog 64 #[.int .i64 15, .agg #[.int .i64 a, .int .i64 b, .bool true], .agg #[.int .i64 c, .int .i64 d, .bool true]] w fun e w' => e = .returned (.agg #[.int .i64 (tstS 15 ⟨a, b, true⟩ ⟨c, d, true⟩).lo, .int .i64 (tstS 15 ⟨a, b, true⟩ ⟨c, d, true⟩).hi, .bool (tstS 15 ⟨a, b, true⟩ ⟨c, d, true⟩).has]) ∧ Below w.heap.size w w' := by
  by_cases h1 : b ≤ c
  · have HD := hidI (show tstS 15 ⟨a, b, true⟩ ⟨c, d, true⟩ = ofS 1 1 from by unfold tstS sameSp apartB sureS; simp [*])
    go_enter Tryd.func64, Tryd.ntmps64
    go_wp2_with fail
    go_quiet (fail)
    go_wp2_with (go_at_call 59; refine (rOf_any _ _ _).mono ?_; rintro e w1 ⟨rfl, rfl⟩)
    all_goals
      refine bodyPost_ret ?_ rfl ⟨by rw [HD.out], ?_⟩
      · simp [results, Tryd.results64, go_sem, ofS]
      · repeat (first | with_reducible exact Below.refl _ _ | with_reducible exact HB3.out | with_reducible refine Below.drew ?_ | with_reducible refine below_drewN ?_ _ | with_reducible refine Below.setCell ?_ ?_ _ | with_reducible refine Below.alloc ?_ ?_ _ | with_reducible exact HB2.out | with_reducible exact HB1.out | with_reducible refine Below.trans ?_ (Below.mono hb3 ?_) | with_reducible refine Below.trans ?_ (Below.mono hb5 ?_) | with_reducible refine Below.trans ?_ (Below.mono hb4 ?_) | omega | (simp; omega) | simp)
  · by_cases h2 : d < a
    · have HD := hidI (show tstS 15 ⟨a, b, true⟩ ⟨c, d, true⟩ = ofS 0 0 from by unfold tstS sameSp apartB sureS; simp [*])
      go_enter Tryd.func64, Tryd.ntmps64
      go_wp2_with fail
      go_quiet (fail)
      go_wp2_with (go_at_call 59; refine (rOf_any _ _ _).mono ?_; rintro e w1 ⟨rfl, rfl⟩)
      all_goals
        refine bodyPost_ret ?_ rfl ⟨by rw [HD.out], ?_⟩
        · simp [results, Tryd.results64, go_sem, ofS]
        · repeat (first | with_reducible exact Below.refl _ _ | with_reducible exact HB3.out | with_reducible refine Below.drew ?_ | with_reducible refine below_drewN ?_ _ | with_reducible refine Below.setCell ?_ ?_ _ | with_reducible refine Below.alloc ?_ ?_ _ | with_reducible exact HB2.out | with_reducible exact HB1.out | with_reducible refine Below.trans ?_ (Below.mono hb3 ?_) | with_reducible refine Below.trans ?_ (Below.mono hb5 ?_) | with_reducible refine Below.trans ?_ (Below.mono hb4 ?_) | omega | (simp; omega) | simp)
    · have HD := hidI (show tstS 15 ⟨a, b, true⟩ ⟨c, d, true⟩ = ofS 0 1 from by unfold tstS sameSp apartB sureS; simp [*])
      go_enter Tryd.func64, Tryd.ntmps64
      go_wp2_with fail
      go_quiet (fail)
      go_wp2_with (go_at_call 59; refine (rOf_any _ _ _).mono ?_; rintro e w1 ⟨rfl, rfl⟩)
      all_goals
        refine bodyPost_ret ?_ rfl ⟨by rw [HD.out], ?_⟩
        · simp [results, Tryd.results64, go_sem, ofS]
        · repeat (first | with_reducible exact Below.refl _ _ | with_reducible exact HB3.out | with_reducible refine Below.drew ?_ | with_reducible refine below_drewN ?_ _ | with_reducible refine Below.setCell ?_ ?_ _ | with_reducible refine Below.alloc ?_ ?_ _ | with_reducible exact HB2.out | with_reducible exact HB1.out | with_reducible refine Below.trans ?_ (Below.mono hb3 ?_) | with_reducible refine Below.trans ?_ (Below.mono hb5 ?_) | with_reducible refine Below.trans ?_ (Below.mono hb4 ?_) | omega | (simp; omega) | simp)
end Go.Proofs.YtdjamkinijhjoaaDoor
