/-
  The contracts of simple.one and simple.One.
-/
import Derived.Test.YteckkdmgkikeaaaSoD
import Derived.Test.YteckkdmgkikeaaaSoE
import Derived.Test.YteckkdmgkikeaaaSoB
import Derived.WalkKit
import Derived.WalkSpells
import Derived.WalkLawsBesides
namespace Go.Proofs.Yteckkdmgkikeaaa
open Go.RowKit

-- it does not reckon, or is a copy
set_option maxRecDepth 100000 in
set_option maxHeartbeats 1000000 in
theorem one_no (op dst an bn fn : Int) (ar br : Bool) (ap : Option Addr) (al ac : Nat) (w : World) (h : op ≤ 1 ∨ 17 < op) :
    Calls Try.prog 9 #[.agg #[.int .i64 op, .int .i64 dst, .bool ar, .int .i64 an, .bool br, .int .i64 bn, .int .i64 fn, .slice ap al ac]] w fun e w' => InstPost (· = oneI op dst an bn fn ar br ap al ac) e ∧ Below w.heap.size w w' := by
  by_cases h1 : op = 1
  · subst h1
    have hr : recB 1 = true := rfl
    go_enter Try.func9, Try.ntmps9
    go_wp2_with (first | (go_at_call 14; refine (reckons_any _ _).mono ?_; rintro e w1 ⟨rfl, rfl⟩))
    all_goals (refine bodyPost_ret ?_ rfl ⟨InstPost.of _ rfl, ?_⟩; (focus (simp [results, Try.results9, go_sem, oneI, Inst.cells])); repeat (first | with_reducible exact Below.refl _ _ | with_reducible exact HB3.out | with_reducible refine Below.drew ?_ | with_reducible refine below_drewN ?_ _ | with_reducible refine Below.setCell ?_ ?_ _ | with_reducible refine Below.alloc ?_ ?_ _ | with_reducible exact HB2.out | with_reducible exact HB1.out | with_reducible refine Below.trans ?_ (Below.mono hb3 ?_) | with_reducible refine Below.trans ?_ (Below.mono hb5 ?_) | with_reducible refine Below.trans ?_ (Below.mono hb4 ?_) | omega | (simp; omega) | simp))
  · have hr : recB op = false := by unfold recB; rw [decide_eq_false_iff_not]; omega
    go_enter Try.func9, Try.ntmps9
    go_wp2_with (first | (go_at_call 14; refine (reckons_any _ _).mono ?_; rintro e w1 ⟨rfl, rfl⟩))
    all_goals (refine bodyPost_ret ?_ rfl ⟨InstPost.of _ rfl, ?_⟩; (focus (simp [results, Try.results9, go_sem, oneI, Inst.cells, h])); repeat (first | with_reducible exact Below.refl _ _ | with_reducible exact HB3.out | with_reducible refine Below.drew ?_ | with_reducible refine below_drewN ?_ _ | with_reducible refine Below.setCell ?_ ?_ _ | with_reducible refine Below.alloc ?_ ?_ _ | with_reducible exact HB2.out | with_reducible exact HB1.out | with_reducible refine Below.trans ?_ (Below.mono hb3 ?_) | with_reducible refine Below.trans ?_ (Below.mono hb5 ?_) | with_reducible refine Below.trans ?_ (Below.mono hb4 ?_) | omega | (simp; omega) | simp))

-- OpNeg, OpNot of a register
set_option maxRecDepth 100000 in
set_option maxHeartbeats 1000000 in
theorem one_lone_r (op dst an bn fn : Int) (br : Bool) (ap : Option Addr) (al ac : Nat) (w : World) (h : op = 16 ∨ op = 17) :
    Calls Try.prog 9 #[.agg #[.int .i64 op, .int .i64 dst, .bool true, .int .i64 an, .bool br, .int .i64 bn, .int .i64 fn, .slice ap al ac]] w fun e w' => InstPost (· = oneI op dst an bn fn true br ap al ac) e ∧ Below w.heap.size w w' := by
  have hr16 : recB 16 = true := rfl
  have hr17 : recB 17 = true := rfl
  have hfl := run_fieldB true true false
  rcases h with rfl | rfl
  all_goals
    go_enter Try.func9, Try.ntmps9
    go_wp2_with (first | (go_at_call 14; refine (reckons_any _ _).mono ?_; rintro e w1 ⟨rfl, rfl⟩) | (go_at_call 15; refine (shapes_one _ _ ?_).mono ?_; (focus omega); rintro e w1 ⟨rfl, rfl⟩))
    all_goals (refine bodyPost_ret ?_ rfl ⟨InstPost.of _ rfl, ?_⟩; (focus (simp [results, Try.results9, go_sem, oneI, Inst.cells])); repeat (first | with_reducible exact Below.refl _ _ | with_reducible exact HB3.out | with_reducible refine Below.drew ?_ | with_reducible refine below_drewN ?_ _ | with_reducible refine Below.setCell ?_ ?_ _ | with_reducible refine Below.alloc ?_ ?_ _ | with_reducible exact HB2.out | with_reducible exact HB1.out | with_reducible refine Below.trans ?_ (Below.mono hb3 ?_) | with_reducible refine Below.trans ?_ (Below.mono hb5 ?_) | with_reducible refine Below.trans ?_ (Below.mono hb4 ?_) | omega | (simp; omega) | simp))

-- OpNeg, OpNot of a number
set_option maxRecDepth 100000 in
set_option maxHeartbeats 2000000 in
theorem one_lone_n (op dst an bn fn : Int) (br : Bool) (ap : Option Addr) (al ac : Nat) (w : World) (h : op = 16 ∨ op = 17) (ha : I64 an) :
    Calls Try.prog 9 #[.agg #[.int .i64 op, .int .i64 dst, .bool false, .int .i64 an, .bool br, .int .i64 bn, .int .i64 fn, .slice ap al ac]] w fun e w' => InstPost (· = oneI op dst an bn fn false br ap al ac) e ∧ Below w.heap.size w w' := by
  have hr16 : recB 16 = true := rfl
  have hr17 : recB 17 = true := rfl
  have HA : Hid (I64 an) := ha
  clear ha
  have hfl := run_fieldB true true false
  have t16 : (twoL 16 an bn).2 = true := rfl
  have t17 : (twoL 17 an bn).2 = true := rfl
  rcases h with rfl | rfl
  all_goals
    go_enter Try.func9, Try.ntmps9
    go_wp2_with (first | (go_at_call 14; refine (reckons_any _ _).mono ?_; rintro e w1 ⟨rfl, rfl⟩) | (go_at_call 15; refine (shapes_one _ _ ?_).mono ?_; (focus omega); rintro e w1 ⟨rfl, rfl⟩) | (go_at_call 16; refine (ctwo_any _ _ _ ?_ ?_ _).mono ?_; (focus omega); (focus exact HA.out); rintro e w1 ⟨rfl, rfl⟩))
    go_region_with (first | (go_at_call 18; refine (num_any _ _).mono ?_; rintro e w1 ⟨rfl, rfl⟩) | (go_at_call 17; refine (made1_any _ _ ?_ ?_ _ _ _ _ ?_ ?_).mono ?_; rotate_left 2; (focus (go_simp; rfl)); (focus (go_simp; rfl)); rintro e w2 ⟨rfl, rfl⟩))
    all_goals go_wp2
    all_goals (refine bodyPost_ret ?_ rfl ⟨InstPost.of _ rfl, ?_⟩; (focus (simp [results, Try.results9, go_sem, oneI, one1, Inst.cells])); repeat (first | with_reducible exact Below.refl _ _ | with_reducible exact HB3.out | with_reducible refine Below.drew ?_ | with_reducible refine below_drewN ?_ _ | with_reducible refine Below.setCell ?_ ?_ _ | with_reducible refine Below.alloc ?_ ?_ _ | with_reducible exact HB2.out | with_reducible exact HB1.out | with_reducible refine Below.trans ?_ (Below.mono hb3 ?_) | with_reducible refine Below.trans ?_ (Below.mono hb5 ?_) | with_reducible refine Below.trans ?_ (Below.mono hb4 ?_) | omega | (simp; omega) | simp))

-- two numbers, and there is a value
set_option maxRecDepth 100000 in
set_option maxHeartbeats 2000000 in
theorem one_ff (op dst an bn fn : Int) (ap : Option Addr) (al ac : Nat) (w : World) (h : 2 ≤ op ∧ op ≤ 15) (ha : I64 an) (ht : (twoL op an bn).2 = true) :
    Calls Try.prog 9 #[.agg #[.int .i64 op, .int .i64 dst, .bool false, .int .i64 an, .bool false, .int .i64 bn, .int .i64 fn, .slice ap al ac]] w fun e w' => InstPost (· = oneI op dst an bn fn false false ap al ac) e ∧ Below w.heap.size w w' := by
  have h1 : (op == 1) = false := by rw [beq_eq_false_iff_ne]; omega
  have hr : recB op = true := by unfold recB; rw [decide_eq_true_eq]; omega
  have HA : Hid (I64 an) := ha
  clear ha
  have HT : Hid (oneI op dst an bn fn false false ap al ac = one1 1 dst false (twoL op an bn).1) := by
    show _ = _
    unfold oneI; rw [if_neg (by omega), if_neg (by omega), if_pos ⟨rfl, rfl⟩, if_pos ht]
  have hfl := run_fieldB true true true
  go_enter Try.func9, Try.ntmps9
  go_wp2_with (first | (go_at_call 14; refine (reckons_any _ _).mono ?_; rintro e w1 ⟨rfl, rfl⟩) | (go_at_call 15; refine (shapes_two _ _ ?_).mono ?_; (focus omega); rintro e w1 ⟨rfl, rfl⟩) | (go_at_call 16; refine (ctwo_any _ _ _ ?_ ?_ _).mono ?_; (focus omega); (focus exact HA.out); rintro e w1 ⟨rfl, rfl⟩))
  go_region_with (first | (go_at_call 18; refine (num_any _ _).mono ?_; rintro e w1 ⟨rfl, rfl⟩) | (go_at_call 17; refine (made1_any _ _ ?_ ?_ _ _ _ _ ?_ ?_).mono ?_; rotate_left 2; (focus (go_simp; rfl)); (focus (go_simp; rfl)); rintro e w2 ⟨rfl, rfl⟩))
  all_goals go_wp2
  all_goals (refine bodyPost_ret ?_ rfl ⟨InstPost.of _ rfl, ?_⟩; (focus (simp [results, Try.results9, go_sem, HT.out, one1, Inst.cells])); repeat (first | with_reducible exact Below.refl _ _ | with_reducible exact HB3.out | with_reducible refine Below.drew ?_ | with_reducible refine below_drewN ?_ _ | with_reducible refine Below.setCell ?_ ?_ _ | with_reducible refine Below.alloc ?_ ?_ _ | with_reducible exact HB2.out | with_reducible exact HB1.out | with_reducible refine Below.trans ?_ (Below.mono hb3 ?_) | with_reducible refine Below.trans ?_ (Below.mono hb5 ?_) | with_reducible refine Below.trans ?_ (Below.mono hb4 ?_) | omega | (simp; omega) | simp))
-- two numbers, and there is none
set_option maxRecDepth 100000 in
set_option maxHeartbeats 2000000 in
theorem one_ff0 (op dst an bn fn : Int) (ap : Option Addr) (al ac : Nat) (w : World) (h : 2 ≤ op ∧ op ≤ 15) (ha : I64 an) (ht : (twoL op an bn).2 = false) :
    Calls Try.prog 9 #[.agg #[.int .i64 op, .int .i64 dst, .bool false, .int .i64 an, .bool false, .int .i64 bn, .int .i64 fn, .slice ap al ac]] w fun e w' => InstPost (· = oneI op dst an bn fn false false ap al ac) e ∧ Below w.heap.size w w' := by
  have h1 : (op == 1) = false := by rw [beq_eq_false_iff_ne]; omega
  have hr : recB op = true := by unfold recB; rw [decide_eq_true_eq]; omega
  have HA : Hid (I64 an) := ha
  clear ha
  have HT : Hid (oneI op dst an bn fn false false ap al ac = ⟨op, dst, false, an, false, bn, fn, ap, al, ac⟩) := by
    show _ = _
    unfold oneI; rw [if_neg (by omega), if_neg (by omega), if_pos ⟨rfl, rfl⟩, if_neg (by rw [ht]; decide)]
  have hfl := run_fieldB true true true
  go_enter Try.func9, Try.ntmps9
  go_wp2_with (first | (go_at_call 14; refine (reckons_any _ _).mono ?_; rintro e w1 ⟨rfl, rfl⟩) | (go_at_call 15; refine (shapes_two _ _ ?_).mono ?_; (focus omega); rintro e w1 ⟨rfl, rfl⟩) | (go_at_call 16; refine (ctwo_any _ _ _ ?_ ?_ _).mono ?_; (focus omega); (focus exact HA.out); rintro e w1 ⟨rfl, rfl⟩))
  all_goals (refine bodyPost_ret ?_ rfl ⟨InstPost.of _ rfl, ?_⟩; (focus (simp [results, Try.results9, go_sem, HT.out, Inst.cells])); repeat (first | with_reducible exact Below.refl _ _ | with_reducible exact HB3.out | with_reducible refine Below.drew ?_ | with_reducible refine below_drewN ?_ _ | with_reducible refine Below.setCell ?_ ?_ _ | with_reducible refine Below.alloc ?_ ?_ _ | with_reducible exact HB2.out | with_reducible exact HB1.out | with_reducible refine Below.trans ?_ (Below.mono hb3 ?_) | with_reducible refine Below.trans ?_ (Below.mono hb5 ?_) | with_reducible refine Below.trans ?_ (Below.mono hb4 ?_) | omega | (simp; omega) | simp))

end Go.Proofs.Yteckkdmgkikeaaa
