/-
  The contracts of simple.led and simple.alike.
The contracts of core.Shapes and of the reference's small functions: Two, copyOf, simpleBehind.
The contracts of simple.one and simple.One.
The contracts of simple.one and simple.One.
The contracts of simple.one and simple.One.
-/
import Derived.Test.YtlalmbklhmpngaaDoorBSoC
import Derived.Deep.RegionWith
import Derived.WalkKit
import Derived.WalkSpells
import Derived.WalkLawsBesides
import Derived.Test.YtlalmbklhmpngaaDoorBSoA
namespace Go.Proofs.YtlalmbklhmpngaaDoor
open Go.RowKit

theorem fixed_any (op n dst an fn : Int) (ar : Bool) (ap : Option Addr) (al ac : Nat) (w : World) (h : 2 ≤ op ∧ op ≤ 15) :
    Calls Tryd.prog 72 #[.agg #[.int .i64 op, .int .i64 dst, .bool ar, .int .i64 an, .bool false, .int .i64 n, .int .i64 fn, .slice ap al ac]] w fun e w' => InstPost (· = fixI op n dst an fn ar ap al ac) e ∧ Below w.heap.size w w' := by
  by_cases n0 : n = 0
  · subst n0; exact fixed_0 op dst an fn ar ap al ac w (by omega)
  by_cases n1 : n = 1
  · subst n1; exact fixed_1 op dst an fn ar ap al ac w (by omega)
  by_cases nm : n = -1
  · subst nm; exact fixed_m op dst an fn ar ap al ac w (by omega)
  have h1 : (n == 0) = false := by simpa using n0
  have h2 : (n == 1) = false := by simpa using n1
  have h3 : (n == -1) = false := by simpa using nm
  by_cases hs : op = 10 ∨ op = 11
  · by_cases hn : n % 64 = 0
    · exact fixed_s0 op n dst an fn ar ap al ac w hs h1 h2 h3 hn
    · exact fixed_s1 op n dst an fn ar ap al ac w hs h1 h2 h3 (by simpa using hn)
  · exact fixed_e op n dst an fn ar ap al ac w (by omega) h1 h2 h3

set_option maxHeartbeats 4000000 in
theorem led_any (op n dst bn fn : Int) (ap : Option Addr) (al ac : Nat) (w : World) :
    Calls Tryd.prog 73 #[.agg #[.int .i64 op, .int .i64 dst, .bool false, .int .i64 n, .bool true, .int .i64 bn, .int .i64 fn, .slice ap al ac]] w fun e w' => InstPost (· = ledI op n dst bn fn ap al ac) e ∧ Below w.heap.size w w' := by
  go_enter Tryd.func73, Tryd.ntmps73
  go_wp2_with (first | (go_at_call 69; refine (made1_any _ _ ?_ ?_ _ _ _ _ ?_ ?_).mono ?_; rotate_left 2; (focus (go_simp; rfl)); (focus (go_simp; rfl)); rintro e w2 ⟨rfl, rfl⟩) | (go_at_call 70; refine (num_any _ _).mono ?_; rintro e w1 ⟨rfl, rfl⟩))
  all_goals (refine bodyPost_ret ?_ rfl ⟨InstPost.of _ rfl, ?_⟩; (focus (first | (simp [results, Tryd.results73, go_sem, ledI, one1, Inst.cells, *]; done) | (simp_all [results, Tryd.results73, go_sem, ledI, one1, Inst.cells]; done))); repeat (first | with_reducible exact Below.refl _ _ | with_reducible exact HB3.out | with_reducible refine Below.drew ?_ | with_reducible refine below_drewN ?_ _ | with_reducible refine Below.setCell ?_ ?_ _ | with_reducible refine Below.alloc ?_ ?_ _ | with_reducible exact HB2.out | with_reducible exact HB1.out | with_reducible refine Below.trans ?_ (Below.mono hb3 ?_) | with_reducible refine Below.trans ?_ (Below.mono hb5 ?_) | with_reducible refine Below.trans ?_ (Below.mono hb4 ?_) | omega | (simp; omega) | simp))

set_option maxHeartbeats 4000000 in
theorem ali_any (op n dst fn : Int) (ap : Option Addr) (al ac : Nat) (w : World) (h0 : op = 2 ∨ op = 3 ∨ op = 4 ∨ op = 5 ∨ op = 6 ∨ op = 7 ∨ op = 8 ∨ op = 9 ∨ op = 10 ∨ op = 11 ∨ op = 12 ∨ op = 13 ∨ op = 14 ∨ op = 15) :
    Calls Tryd.prog 74 #[.agg #[.int .i64 op, .int .i64 dst, .bool true, .int .i64 n, .bool true, .int .i64 n, .int .i64 fn, .slice ap al ac]] w fun e w' => InstPost (· = aliI op dst n fn ap al ac) e ∧ Below w.heap.size w w' := by
  rcases h0 with rfl | rfl | rfl | rfl | rfl | rfl | rfl | rfl | rfl | rfl | rfl | rfl | rfl | rfl
  all_goals
    go_enter Tryd.func74, Tryd.ntmps74
    go_wp2_with (first | (go_at_call 69; refine (made1_any _ _ ?_ ?_ _ _ _ _ ?_ ?_).mono ?_; rotate_left 2; (focus (go_simp; rfl)); (focus (go_simp; rfl)); rintro e w2 ⟨rfl, rfl⟩) | (go_at_call 70; refine (num_any _ _).mono ?_; rintro e w1 ⟨rfl, rfl⟩))
    try (go_region_with (first | (go_at_call 70; refine (num_any _ _).mono ?_; rintro e w1 ⟨rfl, rfl⟩) | (go_at_call 69; refine (made1_any _ _ ?_ ?_ _ _ _ _ ?_ ?_).mono ?_; rotate_left 2; (focus (go_simp; rfl)); (focus (go_simp; rfl)); rintro e w2 ⟨rfl, rfl⟩)))
    all_goals go_wp2
    all_goals (refine bodyPost_ret ?_ rfl ⟨InstPost.of _ rfl, ?_⟩; (focus (simp [results, Tryd.results74, go_sem, aliI, one1, Inst.cells])); repeat (first | with_reducible exact Below.refl _ _ | with_reducible exact HB3.out | with_reducible refine Below.drew ?_ | with_reducible refine below_drewN ?_ _ | with_reducible refine Below.setCell ?_ ?_ _ | with_reducible refine Below.alloc ?_ ?_ _ | with_reducible exact HB2.out | with_reducible exact HB1.out | with_reducible refine Below.trans ?_ (Below.mono hb3 ?_) | with_reducible refine Below.trans ?_ (Below.mono hb5 ?_) | with_reducible refine Below.trans ?_ (Below.mono hb4 ?_) | omega | (simp; omega) | simp))
end Go.Proofs.YtlalmbklhmpngaaDoor
namespace Go.Proofs.YtlalmbklhmpngaaDoor
open Go.RowKit

set_option maxHeartbeats 400000 in
theorem shapes_two (op : Int) (w : World) (h : 2 ≤ op ∧ op ≤ 15) :
    Calls Tryd.prog 67 #[.int .i64 op] w fun e w' => e = .returned (.agg #[.bool true, .bool true, .bool true]) ∧ w' = w.alloc (.cells #[.bool true, .bool true, .bool true] 116) := by
  have h1 : (op == 1) = false := by rw [beq_eq_false_iff_ne]; omega
  have h2 : (op == 16) = false := by rw [beq_eq_false_iff_ne]; omega
  have h3 : (op == 17) = false := by rw [beq_eq_false_iff_ne]; omega
  have h4 : (op == 18) = false := by rw [beq_eq_false_iff_ne]; omega
  go_enter Tryd.func67, Tryd.ntmps67
  go_wp2
  all_goals (refine bodyPost_ret ?_ rfl ⟨rfl, rfl⟩; simp [results, Tryd.results67, go_sem])
set_option maxHeartbeats 400000 in
theorem shapes_one (op : Int) (w : World) (h : op = 16 ∨ op = 17) :
    Calls Tryd.prog 67 #[.int .i64 op] w fun e w' => e = .returned (.agg #[.bool true, .bool true, .bool false]) ∧ w' = w.alloc (.cells #[.bool true, .bool true, .bool false] 116) := by
  rcases h with rfl | rfl
  all_goals
    go_enter Tryd.func67, Tryd.ntmps67
    go_wp2
    all_goals (refine bodyPost_ret ?_ rfl ⟨rfl, rfl⟩; simp [results, Tryd.results67, go_sem])

theorem run_fieldB (a b c : Bool) (w : World) : (Instr.field 116 (.agg #[.bool a, .bool b, .bool c]) 2).run Tryd.prog w = .ok (.bool c) w := by kernel_rfl

end Go.Proofs.YtlalmbklhmpngaaDoor
namespace Go.Proofs.YtlalmbklhmpngaaDoor
open Go.RowKit

-- it does not reckon, or is a copy
set_option maxRecDepth 100000 in
set_option maxHeartbeats 1000000 in
theorem one_no (op dst an bn fn : Int) (ar br : Bool) (ap : Option Addr) (al ac : Nat) (w : World) (h : op ≤ 1 ∨ 17 < op) :
    Calls Tryd.prog 35 #[.agg #[.int .i64 op, .int .i64 dst, .bool ar, .int .i64 an, .bool br, .int .i64 bn, .int .i64 fn, .slice ap al ac]] w fun e w' => InstPost (· = oneI op dst an bn fn ar br ap al ac) e ∧ Below w.heap.size w w' := by
  by_cases h1 : op = 1
  · subst h1
    have hr : recB 1 = true := rfl
    go_enter Tryd.func35, Tryd.ntmps35
    go_wp2_with (first | (go_at_call 66; refine (reckons_any _ _).mono ?_; rintro e w1 ⟨rfl, rfl⟩))
    all_goals (refine bodyPost_ret ?_ rfl ⟨InstPost.of _ rfl, ?_⟩; (focus (simp [results, Tryd.results35, go_sem, oneI, Inst.cells])); repeat (first | with_reducible exact Below.refl _ _ | with_reducible exact HB3.out | with_reducible refine Below.drew ?_ | with_reducible refine below_drewN ?_ _ | with_reducible refine Below.setCell ?_ ?_ _ | with_reducible refine Below.alloc ?_ ?_ _ | with_reducible exact HB2.out | with_reducible exact HB1.out | with_reducible refine Below.trans ?_ (Below.mono hb3 ?_) | with_reducible refine Below.trans ?_ (Below.mono hb5 ?_) | with_reducible refine Below.trans ?_ (Below.mono hb4 ?_) | omega | (simp; omega) | simp))
  · have hr : recB op = false := by unfold recB; rw [decide_eq_false_iff_not]; omega
    go_enter Tryd.func35, Tryd.ntmps35
    go_wp2_with (first | (go_at_call 66; refine (reckons_any _ _).mono ?_; rintro e w1 ⟨rfl, rfl⟩))
    all_goals (refine bodyPost_ret ?_ rfl ⟨InstPost.of _ rfl, ?_⟩; (focus (simp [results, Tryd.results35, go_sem, oneI, Inst.cells, h])); repeat (first | with_reducible exact Below.refl _ _ | with_reducible exact HB3.out | with_reducible refine Below.drew ?_ | with_reducible refine below_drewN ?_ _ | with_reducible refine Below.setCell ?_ ?_ _ | with_reducible refine Below.alloc ?_ ?_ _ | with_reducible exact HB2.out | with_reducible exact HB1.out | with_reducible refine Below.trans ?_ (Below.mono hb3 ?_) | with_reducible refine Below.trans ?_ (Below.mono hb5 ?_) | with_reducible refine Below.trans ?_ (Below.mono hb4 ?_) | omega | (simp; omega) | simp))

-- OpNeg, OpNot of a register
set_option maxRecDepth 100000 in
set_option maxHeartbeats 1000000 in
theorem one_lone_r (op dst an bn fn : Int) (br : Bool) (ap : Option Addr) (al ac : Nat) (w : World) (h : op = 16 ∨ op = 17) :
    Calls Tryd.prog 35 #[.agg #[.int .i64 op, .int .i64 dst, .bool true, .int .i64 an, .bool br, .int .i64 bn, .int .i64 fn, .slice ap al ac]] w fun e w' => InstPost (· = oneI op dst an bn fn true br ap al ac) e ∧ Below w.heap.size w w' := by
  have hr16 : recB 16 = true := rfl
  have hr17 : recB 17 = true := rfl
  have hfl := run_fieldB true true false
  rcases h with rfl | rfl
  all_goals
    go_enter Tryd.func35, Tryd.ntmps35
    go_wp2_with (first | (go_at_call 66; refine (reckons_any _ _).mono ?_; rintro e w1 ⟨rfl, rfl⟩) | (go_at_call 67; refine (shapes_one _ _ ?_).mono ?_; (focus omega); rintro e w1 ⟨rfl, rfl⟩))
    all_goals (refine bodyPost_ret ?_ rfl ⟨InstPost.of _ rfl, ?_⟩; (focus (simp [results, Tryd.results35, go_sem, oneI, Inst.cells])); repeat (first | with_reducible exact Below.refl _ _ | with_reducible exact HB3.out | with_reducible refine Below.drew ?_ | with_reducible refine below_drewN ?_ _ | with_reducible refine Below.setCell ?_ ?_ _ | with_reducible refine Below.alloc ?_ ?_ _ | with_reducible exact HB2.out | with_reducible exact HB1.out | with_reducible refine Below.trans ?_ (Below.mono hb3 ?_) | with_reducible refine Below.trans ?_ (Below.mono hb5 ?_) | with_reducible refine Below.trans ?_ (Below.mono hb4 ?_) | omega | (simp; omega) | simp))

-- OpNeg, OpNot of a number
set_option maxRecDepth 100000 in
set_option maxHeartbeats 2000000 in
theorem one_lone_n (op dst an bn fn : Int) (br : Bool) (ap : Option Addr) (al ac : Nat) (w : World) (h : op = 16 ∨ op = 17) (ha : I64 an) :
    Calls Tryd.prog 35 #[.agg #[.int .i64 op, .int .i64 dst, .bool false, .int .i64 an, .bool br, .int .i64 bn, .int .i64 fn, .slice ap al ac]] w fun e w' => InstPost (· = oneI op dst an bn fn false br ap al ac) e ∧ Below w.heap.size w w' := by
  have hr16 : recB 16 = true := rfl
  have hr17 : recB 17 = true := rfl
  have HA : Hid (I64 an) := ha
  clear ha
  have hfl := run_fieldB true true false
  have t16 : (twoL 16 an bn).2 = true := rfl
  have t17 : (twoL 17 an bn).2 = true := rfl
  rcases h with rfl | rfl
  all_goals
    go_enter Tryd.func35, Tryd.ntmps35
    go_wp2_with (first | (go_at_call 66; refine (reckons_any _ _).mono ?_; rintro e w1 ⟨rfl, rfl⟩) | (go_at_call 67; refine (shapes_one _ _ ?_).mono ?_; (focus omega); rintro e w1 ⟨rfl, rfl⟩) | (go_at_call 68; refine (ctwo_any _ _ _ ?_ ?_ _).mono ?_; (focus omega); (focus exact HA.out); rintro e w1 ⟨rfl, rfl⟩))
    go_region_with (first | (go_at_call 70; refine (num_any _ _).mono ?_; rintro e w1 ⟨rfl, rfl⟩) | (go_at_call 69; refine (made1_any _ _ ?_ ?_ _ _ _ _ ?_ ?_).mono ?_; rotate_left 2; (focus (go_simp; rfl)); (focus (go_simp; rfl)); rintro e w2 ⟨rfl, rfl⟩))
    all_goals go_wp2
    all_goals (refine bodyPost_ret ?_ rfl ⟨InstPost.of _ rfl, ?_⟩; (focus (simp [results, Tryd.results35, go_sem, oneI, one1, Inst.cells])); repeat (first | with_reducible exact Below.refl _ _ | with_reducible exact HB3.out | with_reducible refine Below.drew ?_ | with_reducible refine below_drewN ?_ _ | with_reducible refine Below.setCell ?_ ?_ _ | with_reducible refine Below.alloc ?_ ?_ _ | with_reducible exact HB2.out | with_reducible exact HB1.out | with_reducible refine Below.trans ?_ (Below.mono hb3 ?_) | with_reducible refine Below.trans ?_ (Below.mono hb5 ?_) | with_reducible refine Below.trans ?_ (Below.mono hb4 ?_) | omega | (simp; omega) | simp))

-- two numbers, and there is a value
set_option maxRecDepth 100000 in
set_option maxHeartbeats 2000000 in
theorem one_ff (op dst an bn fn : Int) (ap : Option Addr) (al ac : Nat) (w : World) (h : 2 ≤ op ∧ op ≤ 15) (ha : I64 an) (ht : (twoL op an bn).2 = true) :
    Calls Tryd.prog 35 #[.agg #[.int .i64 op, .int .i64 dst, .bool false, .int .i64 an, .bool false, .int .i64 bn, .int .i64 fn, .slice ap al ac]] w fun e w' => InstPost (· = oneI op dst an bn fn false false ap al ac) e ∧ Below w.heap.size w w' := by
  have h1 : (op == 1) = false := by rw [beq_eq_false_iff_ne]; omega
  have hr : recB op = true := by unfold recB; rw [decide_eq_true_eq]; omega
  have HA : Hid (I64 an) := ha
  clear ha
  have HT : Hid (oneI op dst an bn fn false false ap al ac = one1 1 dst false (twoL op an bn).1) := by
    show _ = _
    unfold oneI; rw [if_neg (by omega), if_neg (by omega), if_pos ⟨rfl, rfl⟩, if_pos ht]
  have hfl := run_fieldB true true true
  go_enter Tryd.func35, Tryd.ntmps35
  go_wp2_with (first | (go_at_call 66; refine (reckons_any _ _).mono ?_; rintro e w1 ⟨rfl, rfl⟩) | (go_at_call 67; refine (shapes_two _ _ ?_).mono ?_; (focus omega); rintro e w1 ⟨rfl, rfl⟩) | (go_at_call 68; refine (ctwo_any _ _ _ ?_ ?_ _).mono ?_; (focus omega); (focus exact HA.out); rintro e w1 ⟨rfl, rfl⟩))
  go_region_with (first | (go_at_call 70; refine (num_any _ _).mono ?_; rintro e w1 ⟨rfl, rfl⟩) | (go_at_call 69; refine (made1_any _ _ ?_ ?_ _ _ _ _ ?_ ?_).mono ?_; rotate_left 2; (focus (go_simp; rfl)); (focus (go_simp; rfl)); rintro e w2 ⟨rfl, rfl⟩))
  all_goals go_wp2
  all_goals (refine bodyPost_ret ?_ rfl ⟨InstPost.of _ rfl, ?_⟩; (focus (simp [results, Tryd.results35, go_sem, HT.out, one1, Inst.cells])); repeat (first | with_reducible exact Below.refl _ _ | with_reducible exact HB3.out | with_reducible refine Below.drew ?_ | with_reducible refine below_drewN ?_ _ | with_reducible refine Below.setCell ?_ ?_ _ | with_reducible refine Below.alloc ?_ ?_ _ | with_reducible exact HB2.out | with_reducible exact HB1.out | with_reducible refine Below.trans ?_ (Below.mono hb3 ?_) | with_reducible refine Below.trans ?_ (Below.mono hb5 ?_) | with_reducible refine Below.trans ?_ (Below.mono hb4 ?_) | omega | (simp; omega) | simp))
-- two numbers, and there is none
set_option maxRecDepth 100000 in
set_option maxHeartbeats 2000000 in
theorem one_ff0 (op dst an bn fn : Int) (ap : Option Addr) (al ac : Nat) (w : World) (h : 2 ≤ op ∧ op ≤ 15) (ha : I64 an) (ht : (twoL op an bn).2 = false) :
    Calls Tryd.prog 35 #[.agg #[.int .i64 op, .int .i64 dst, .bool false, .int .i64 an, .bool false, .int .i64 bn, .int .i64 fn, .slice ap al ac]] w fun e w' => InstPost (· = oneI op dst an bn fn false false ap al ac) e ∧ Below w.heap.size w w' := by
  have h1 : (op == 1) = false := by rw [beq_eq_false_iff_ne]; omega
  have hr : recB op = true := by unfold recB; rw [decide_eq_true_eq]; omega
  have HA : Hid (I64 an) := ha
  clear ha
  have HT : Hid (oneI op dst an bn fn false false ap al ac = ⟨op, dst, false, an, false, bn, fn, ap, al, ac⟩) := by
    show _ = _
    unfold oneI; rw [if_neg (by omega), if_neg (by omega), if_pos ⟨rfl, rfl⟩, if_neg (by rw [ht]; decide)]
  have hfl := run_fieldB true true true
  go_enter Tryd.func35, Tryd.ntmps35
  go_wp2_with (first | (go_at_call 66; refine (reckons_any _ _).mono ?_; rintro e w1 ⟨rfl, rfl⟩) | (go_at_call 67; refine (shapes_two _ _ ?_).mono ?_; (focus omega); rintro e w1 ⟨rfl, rfl⟩) | (go_at_call 68; refine (ctwo_any _ _ _ ?_ ?_ _).mono ?_; (focus omega); (focus exact HA.out); rintro e w1 ⟨rfl, rfl⟩))
  all_goals (refine bodyPost_ret ?_ rfl ⟨InstPost.of _ rfl, ?_⟩; (focus (simp [results, Tryd.results35, go_sem, HT.out, Inst.cells])); repeat (first | with_reducible exact Below.refl _ _ | with_reducible exact HB3.out | with_reducible refine Below.drew ?_ | with_reducible refine below_drewN ?_ _ | with_reducible refine Below.setCell ?_ ?_ _ | with_reducible refine Below.alloc ?_ ?_ _ | with_reducible exact HB2.out | with_reducible exact HB1.out | with_reducible refine Below.trans ?_ (Below.mono hb3 ?_) | with_reducible refine Below.trans ?_ (Below.mono hb5 ?_) | with_reducible refine Below.trans ?_ (Below.mono hb4 ?_) | omega | (simp; omega) | simp))

end Go.Proofs.YtlalmbklhmpngaaDoor
namespace Go.Proofs.YtlalmbklhmpngaaDoor
open Go.RowKit

-- a register and a number
set_option maxRecDepth 100000 in
set_option maxHeartbeats 2000000 in
theorem one_tf (op dst an bn fn : Int) (ap : Option Addr) (al ac : Nat) (w : World) (h : 2 ≤ op ∧ op ≤ 15) (h3 : (op == 3) = false) :
    Calls Tryd.prog 35 #[.agg #[.int .i64 op, .int .i64 dst, .bool true, .int .i64 an, .bool false, .int .i64 bn, .int .i64 fn, .slice ap al ac]] w fun e w' => InstPost (· = oneI op dst an bn fn true false ap al ac) e ∧ Below w.heap.size w w' := by
  have h1 : (op == 1) = false := by rw [beq_eq_false_iff_ne]; omega
  have hr : recB op = true := by unfold recB; rw [decide_eq_true_eq]; omega
  have HT : Hid (oneI op dst an bn fn true false ap al ac = fixI op bn dst an fn true ap al ac) := by
    show _ = _
    have : op ≠ 3 := by simpa using h3
    unfold oneI; rw [if_neg (by omega), if_neg (by omega), if_neg (by simp), if_neg (by simp), if_neg (by simp; exact this), if_pos rfl]
  have hfl := run_fieldB true true true
  go_enter Tryd.func35, Tryd.ntmps35
  go_wp2_with (first | (go_at_call 66; refine (reckons_any _ _).mono ?_; rintro e w1 ⟨rfl, rfl⟩) | (go_at_call 67; refine (shapes_two _ _ ?_).mono ?_; (focus omega); rintro e w1 ⟨rfl, rfl⟩) | (go_at_call 71; refine (turns_any _ _).mono ?_; rintro e w1 ⟨rfl, rfl⟩) | (go_at_call 72; refine (fixed_any _ _ _ _ _ _ _ _ _ _ ?_).mono ?_; (focus omega); rintro e w3 ⟨⟨o3, d3, r3, n3, s3, m3, f3, p3, l3, c3, rfl, hP3⟩, hb3⟩; obtain ⟨hc3, hf3, hz3⟩ := bcell hb3; simp at hz3))
  all_goals exact bodyPost_ret (v := .agg #[.int .i64 o3, .int .i64 d3, .bool r3, .int .i64 n3, .bool s3, .int .i64 m3, .int .i64 f3, .slice p3 l3 c3]) (by simp [results, Tryd.results35, go_sem, hc3]) rfl ⟨⟨o3, d3, r3, n3, s3, m3, f3, p3, l3, c3, rfl, by rw [HT.out]; exact hP3⟩, by repeat (first | with_reducible exact Below.refl _ _ | with_reducible exact HB3.out | with_reducible refine Below.drew ?_ | with_reducible refine below_drewN ?_ _ | with_reducible refine Below.setCell ?_ ?_ _ | with_reducible refine Below.alloc ?_ ?_ _ | with_reducible exact HB2.out | with_reducible exact HB1.out | with_reducible refine Below.trans ?_ (Below.mono hb3 ?_) | with_reducible refine Below.trans ?_ (Below.mono hb5 ?_) | with_reducible refine Below.trans ?_ (Below.mono hb4 ?_) | omega | (simp; omega) | simp)⟩
-- a register less a number
set_option maxRecDepth 100000 in
set_option maxHeartbeats 2000000 in
theorem one_sub (dst an bn fn : Int) (ap : Option Addr) (al ac : Nat) (w : World) :
    Calls Tryd.prog 35 #[.agg #[.int .i64 3, .int .i64 dst, .bool true, .int .i64 an, .bool false, .int .i64 bn, .int .i64 fn, .slice ap al ac]] w fun e w' => InstPost (· = oneI 3 dst an bn fn true false ap al ac) e ∧ Below w.heap.size w w' := by
  have hr : recB 3 = true := rfl
  have hwr : ∀ n, IntKind.i64.wrap n = wrap64 n := IntWalk.i64_left
  have hfl := run_fieldB true true true
  have ht3 : turnB 3 = false := rfl
  go_enter Tryd.func35, Tryd.ntmps35
  go_wp2_with (first | (go_at_call 66; refine (reckons_any _ _).mono ?_; rintro e w1 ⟨rfl, rfl⟩) | (go_at_call 67; refine (shapes_two _ _ ?_).mono ?_; (focus omega); rintro e w1 ⟨rfl, rfl⟩) | (go_at_call 71; refine (turns_any _ _).mono ?_; rintro e w1 ⟨rfl, rfl⟩))
  go_region_with (first | (go_at_call 70; refine (num_any _ _).mono ?_; rintro e w1 ⟨rfl, rfl⟩) | (go_at_call 69; refine (made2_any _ _ ?_ ?_ ?_ ?_ _ _ _ _ ?_ ?_ ?_ ?_).mono ?_; rotate_left 4; (focus (go_simp; rfl)); (focus (go_simp; rfl)); (focus (go_simp; rfl)); (focus (go_simp; rfl)); rintro e w2 ⟨rfl, rfl⟩))
  all_goals go_wp2_with (first | (go_at_call 72; refine (fixed_any _ _ _ _ _ _ _ _ _ _ ?_).mono ?_; (focus omega); rintro e w3 ⟨⟨o3, d3, r3, n3, s3, m3, f3, p3, l3, c3, rfl, hP3⟩, hb3⟩; obtain ⟨hc3, hf3, hz3⟩ := bcell hb3; simp at hz3))
  all_goals exact bodyPost_ret (v := .agg #[.int .i64 o3, .int .i64 d3, .bool r3, .int .i64 n3, .bool s3, .int .i64 m3, .int .i64 f3, .slice p3 l3 c3]) (by simp [results, Tryd.results35, go_sem, hc3]) rfl ⟨⟨o3, d3, r3, n3, s3, m3, f3, p3, l3, c3, rfl, hP3⟩, by repeat (first | with_reducible exact Below.refl _ _ | with_reducible exact HB3.out | with_reducible refine Below.drew ?_ | with_reducible refine below_drewN ?_ _ | with_reducible refine Below.setCell ?_ ?_ _ | with_reducible refine Below.alloc ?_ ?_ _ | with_reducible exact HB2.out | with_reducible exact HB1.out | with_reducible refine Below.trans ?_ (Below.mono hb3 ?_) | with_reducible refine Below.trans ?_ (Below.mono hb5 ?_) | with_reducible refine Below.trans ?_ (Below.mono hb4 ?_) | omega | (simp; omega) | simp)⟩
-- a number and a register, that change places
set_option maxRecDepth 100000 in
set_option maxHeartbeats 2000000 in
theorem one_ft1 (op dst an bn fn : Int) (ap : Option Addr) (al ac : Nat) (w : World) (h : 2 ≤ op ∧ op ≤ 15) (ht : turnB op = true) (h3 : (op == 3) = false) :
    Calls Tryd.prog 35 #[.agg #[.int .i64 op, .int .i64 dst, .bool false, .int .i64 an, .bool true, .int .i64 bn, .int .i64 fn, .slice ap al ac]] w fun e w' => InstPost (· = oneI op dst an bn fn false true ap al ac) e ∧ Below w.heap.size w w' := by
  have h1 : (op == 1) = false := by rw [beq_eq_false_iff_ne]; omega
  have hr : recB op = true := by unfold recB; rw [decide_eq_true_eq]; omega
  have HT : Hid (oneI op dst an bn fn false true ap al ac = fixI op an dst bn fn true ap al ac) := by
    show _ = _
    unfold oneI; rw [if_neg (by omega), if_neg (by omega), if_neg (by simp), if_pos ⟨rfl, ht⟩]
  have hfl := run_fieldB true true true
  go_enter Tryd.func35, Tryd.ntmps35
  go_wp2_with (first | (go_at_call 66; refine (reckons_any _ _).mono ?_; rintro e w1 ⟨rfl, rfl⟩) | (go_at_call 67; refine (shapes_two _ _ ?_).mono ?_; (focus omega); rintro e w1 ⟨rfl, rfl⟩) | (go_at_call 71; refine (turns_any _ _).mono ?_; rintro e w1 ⟨rfl, rfl⟩) | (go_at_call 72; refine (fixed_any _ _ _ _ _ _ _ _ _ _ ?_).mono ?_; (focus omega); rintro e w3 ⟨⟨o3, d3, r3, n3, s3, m3, f3, p3, l3, c3, rfl, hP3⟩, hb3⟩; obtain ⟨hc3, hf3, hz3⟩ := bcell hb3; simp at hz3))
  all_goals exact bodyPost_ret (v := .agg #[.int .i64 o3, .int .i64 d3, .bool r3, .int .i64 n3, .bool s3, .int .i64 m3, .int .i64 f3, .slice p3 l3 c3]) (by simp [results, Tryd.results35, go_sem, hc3]) rfl ⟨⟨o3, d3, r3, n3, s3, m3, f3, p3, l3, c3, rfl, by rw [HT.out]; exact hP3⟩, by repeat (first | with_reducible exact Below.refl _ _ | with_reducible exact HB3.out | with_reducible refine Below.drew ?_ | with_reducible refine below_drewN ?_ _ | with_reducible refine Below.setCell ?_ ?_ _ | with_reducible refine Below.alloc ?_ ?_ _ | with_reducible exact HB2.out | with_reducible exact HB1.out | with_reducible refine Below.trans ?_ (Below.mono hb3 ?_) | with_reducible refine Below.trans ?_ (Below.mono hb5 ?_) | with_reducible refine Below.trans ?_ (Below.mono hb4 ?_) | omega | (simp; omega) | simp)⟩
-- a number and a register
set_option maxRecDepth 100000 in
set_option maxHeartbeats 2000000 in
theorem one_ft0 (op dst an bn fn : Int) (ap : Option Addr) (al ac : Nat) (w : World) (h : 2 ≤ op ∧ op ≤ 15) (ht : turnB op = false) :
    Calls Tryd.prog 35 #[.agg #[.int .i64 op, .int .i64 dst, .bool false, .int .i64 an, .bool true, .int .i64 bn, .int .i64 fn, .slice ap al ac]] w fun e w' => InstPost (· = oneI op dst an bn fn false true ap al ac) e ∧ Below w.heap.size w w' := by
  have h1 : (op == 1) = false := by rw [beq_eq_false_iff_ne]; omega
  have hr : recB op = true := by unfold recB; rw [decide_eq_true_eq]; omega
  have HT : Hid (oneI op dst an bn fn false true ap al ac = ledI op an dst bn fn ap al ac) := by
    show _ = _
    unfold oneI; rw [if_neg (by omega), if_neg (by omega), if_neg (by simp), if_neg (by simp [ht]), if_neg (by simp), if_neg (by simp), if_pos rfl]
  have hfl := run_fieldB true true true
  by_cases h3e : op = 3
  · subst h3e
    go_enter Tryd.func35, Tryd.ntmps35
    go_wp2_with (first | (go_at_call 66; refine (reckons_any _ _).mono ?_; rintro e w1 ⟨rfl, rfl⟩) | (go_at_call 67; refine (shapes_two _ _ ?_).mono ?_; (focus omega); rintro e w1 ⟨rfl, rfl⟩) | (go_at_call 71; refine (turns_any _ _).mono ?_; rintro e w1 ⟨rfl, rfl⟩) | (go_at_call 73; refine (led_any _ _ _ _ _ _ _ _ _).mono ?_; rintro e w3 ⟨⟨o3, d3, r3, n3, s3, m3, f3, p3, l3, c3, rfl, hP3⟩, hb3⟩; obtain ⟨hc3, hf3, hz3⟩ := bcell hb3; simp at hz3))
    all_goals exact bodyPost_ret (v := .agg #[.int .i64 o3, .int .i64 d3, .bool r3, .int .i64 n3, .bool s3, .int .i64 m3, .int .i64 f3, .slice p3 l3 c3]) (by simp [results, Tryd.results35, go_sem, hc3]) rfl ⟨⟨o3, d3, r3, n3, s3, m3, f3, p3, l3, c3, rfl, by rw [HT.out]; exact hP3⟩, by repeat (first | with_reducible exact Below.refl _ _ | with_reducible exact HB3.out | with_reducible refine Below.drew ?_ | with_reducible refine below_drewN ?_ _ | with_reducible refine Below.setCell ?_ ?_ _ | with_reducible refine Below.alloc ?_ ?_ _ | with_reducible exact HB2.out | with_reducible exact HB1.out | with_reducible refine Below.trans ?_ (Below.mono hb3 ?_) | with_reducible refine Below.trans ?_ (Below.mono hb5 ?_) | with_reducible refine Below.trans ?_ (Below.mono hb4 ?_) | omega | (simp; omega) | simp)⟩
  · have h3b : (op == 3) = false := by simpa using h3e
    clear h3e
    go_enter Tryd.func35, Tryd.ntmps35
    go_wp2_with (first | (go_at_call 66; refine (reckons_any _ _).mono ?_; rintro e w1 ⟨rfl, rfl⟩) | (go_at_call 67; refine (shapes_two _ _ ?_).mono ?_; (focus omega); rintro e w1 ⟨rfl, rfl⟩) | (go_at_call 71; refine (turns_any _ _).mono ?_; rintro e w1 ⟨rfl, rfl⟩) | (go_at_call 73; refine (led_any _ _ _ _ _ _ _ _ _).mono ?_; rintro e w3 ⟨⟨o3, d3, r3, n3, s3, m3, f3, p3, l3, c3, rfl, hP3⟩, hb3⟩; obtain ⟨hc3, hf3, hz3⟩ := bcell hb3; simp at hz3))
    all_goals exact bodyPost_ret (v := .agg #[.int .i64 o3, .int .i64 d3, .bool r3, .int .i64 n3, .bool s3, .int .i64 m3, .int .i64 f3, .slice p3 l3 c3]) (by simp [results, Tryd.results35, go_sem, hc3]) rfl ⟨⟨o3, d3, r3, n3, s3, m3, f3, p3, l3, c3, rfl, by rw [HT.out]; exact hP3⟩, by repeat (first | with_reducible exact Below.refl _ _ | with_reducible exact HB3.out | with_reducible refine Below.drew ?_ | with_reducible refine below_drewN ?_ _ | with_reducible refine Below.setCell ?_ ?_ _ | with_reducible refine Below.alloc ?_ ?_ _ | with_reducible exact HB2.out | with_reducible exact HB1.out | with_reducible refine Below.trans ?_ (Below.mono hb3 ?_) | with_reducible refine Below.trans ?_ (Below.mono hb5 ?_) | with_reducible refine Below.trans ?_ (Below.mono hb4 ?_) | omega | (simp; omega) | simp)⟩
-- the same register twice
set_option maxRecDepth 100000 in
set_option maxHeartbeats 2000000 in
theorem one_tt (op dst an fn : Int) (ap : Option Addr) (al ac : Nat) (w : World) (h : 2 ≤ op ∧ op ≤ 15) :
    Calls Tryd.prog 35 #[.agg #[.int .i64 op, .int .i64 dst, .bool true, .int .i64 an, .bool true, .int .i64 an, .int .i64 fn, .slice ap al ac]] w fun e w' => InstPost (· = oneI op dst an an fn true true ap al ac) e ∧ Below w.heap.size w w' := by
  have h1 : (op == 1) = false := by rw [beq_eq_false_iff_ne]; omega
  have hr : recB op = true := by unfold recB; rw [decide_eq_true_eq]; omega
  have HT : Hid (oneI op dst an an fn true true ap al ac = aliI op dst an fn ap al ac) := by
    show _ = _
    unfold oneI; rw [if_neg (by omega), if_neg (by omega), if_neg (by simp), if_neg (by simp), if_neg (by simp), if_neg (by simp), if_neg (by simp), if_pos rfl]
  have hfl := run_fieldB true true true
  by_cases h3e : op = 3
  · subst h3e
    go_enter Tryd.func35, Tryd.ntmps35
    go_wp2_with (first | (go_at_call 66; refine (reckons_any _ _).mono ?_; rintro e w1 ⟨rfl, rfl⟩) | (go_at_call 67; refine (shapes_two _ _ ?_).mono ?_; (focus omega); rintro e w1 ⟨rfl, rfl⟩) | (go_at_call 71; refine (turns_any _ _).mono ?_; rintro e w1 ⟨rfl, rfl⟩) | (go_at_call 74; refine (ali_any _ _ _ _ _ _ _ _ ?_).mono ?_; (focus omega); rintro e w3 ⟨⟨o3, d3, r3, n3, s3, m3, f3, p3, l3, c3, rfl, hP3⟩, hb3⟩; obtain ⟨hc3, hf3, hz3⟩ := bcell hb3; simp at hz3))
    all_goals exact bodyPost_ret (v := .agg #[.int .i64 o3, .int .i64 d3, .bool r3, .int .i64 n3, .bool s3, .int .i64 m3, .int .i64 f3, .slice p3 l3 c3]) (by simp [results, Tryd.results35, go_sem, hc3]) rfl ⟨⟨o3, d3, r3, n3, s3, m3, f3, p3, l3, c3, rfl, by rw [HT.out]; exact hP3⟩, by repeat (first | with_reducible exact Below.refl _ _ | with_reducible exact HB3.out | with_reducible refine Below.drew ?_ | with_reducible refine below_drewN ?_ _ | with_reducible refine Below.setCell ?_ ?_ _ | with_reducible refine Below.alloc ?_ ?_ _ | with_reducible exact HB2.out | with_reducible exact HB1.out | with_reducible refine Below.trans ?_ (Below.mono hb3 ?_) | with_reducible refine Below.trans ?_ (Below.mono hb5 ?_) | with_reducible refine Below.trans ?_ (Below.mono hb4 ?_) | omega | (simp; omega) | simp)⟩
  · have h3b : (op == 3) = false := by simpa using h3e
    clear h3e
    go_enter Tryd.func35, Tryd.ntmps35
    go_wp2_with (first | (go_at_call 66; refine (reckons_any _ _).mono ?_; rintro e w1 ⟨rfl, rfl⟩) | (go_at_call 67; refine (shapes_two _ _ ?_).mono ?_; (focus omega); rintro e w1 ⟨rfl, rfl⟩) | (go_at_call 71; refine (turns_any _ _).mono ?_; rintro e w1 ⟨rfl, rfl⟩) | (go_at_call 74; refine (ali_any _ _ _ _ _ _ _ _ ?_).mono ?_; (focus omega); rintro e w3 ⟨⟨o3, d3, r3, n3, s3, m3, f3, p3, l3, c3, rfl, hP3⟩, hb3⟩; obtain ⟨hc3, hf3, hz3⟩ := bcell hb3; simp at hz3))
    all_goals exact bodyPost_ret (v := .agg #[.int .i64 o3, .int .i64 d3, .bool r3, .int .i64 n3, .bool s3, .int .i64 m3, .int .i64 f3, .slice p3 l3 c3]) (by simp [results, Tryd.results35, go_sem, hc3]) rfl ⟨⟨o3, d3, r3, n3, s3, m3, f3, p3, l3, c3, rfl, by rw [HT.out]; exact hP3⟩, by repeat (first | with_reducible exact Below.refl _ _ | with_reducible exact HB3.out | with_reducible refine Below.drew ?_ | with_reducible refine below_drewN ?_ _ | with_reducible refine Below.setCell ?_ ?_ _ | with_reducible refine Below.alloc ?_ ?_ _ | with_reducible exact HB2.out | with_reducible exact HB1.out | with_reducible refine Below.trans ?_ (Below.mono hb3 ?_) | with_reducible refine Below.trans ?_ (Below.mono hb5 ?_) | with_reducible refine Below.trans ?_ (Below.mono hb4 ?_) | omega | (simp; omega) | simp)⟩
-- two registers
set_option maxRecDepth 100000 in
set_option maxHeartbeats 2000000 in
theorem one_tu (op dst an bn fn : Int) (ap : Option Addr) (al ac : Nat) (w : World) (h : 2 ≤ op ∧ op ≤ 15) (hn : (an == bn) = false) :
    Calls Tryd.prog 35 #[.agg #[.int .i64 op, .int .i64 dst, .bool true, .int .i64 an, .bool true, .int .i64 bn, .int .i64 fn, .slice ap al ac]] w fun e w' => InstPost (· = oneI op dst an bn fn true true ap al ac) e ∧ Below w.heap.size w w' := by
  have h1 : (op == 1) = false := by rw [beq_eq_false_iff_ne]; omega
  have hr : recB op = true := by unfold recB; rw [decide_eq_true_eq]; omega
  have HT : Hid (oneI op dst an bn fn true true ap al ac = ⟨op, dst, true, an, true, bn, fn, ap, al, ac⟩) := by
    show _ = _
    have hn2 : an ≠ bn := by simpa using hn
    unfold oneI; rw [if_neg (by omega), if_neg (by omega), if_neg (by simp), if_neg (by simp), if_neg (by simp), if_neg (by simp), if_neg (by simp), if_neg hn2]
  have hfl := run_fieldB true true true
  go_enter Tryd.func35, Tryd.ntmps35
  go_wp2_with (first | (go_at_call 66; refine (reckons_any _ _).mono ?_; rintro e w1 ⟨rfl, rfl⟩) | (go_at_call 67; refine (shapes_two _ _ ?_).mono ?_; (focus omega); rintro e w1 ⟨rfl, rfl⟩) | (go_at_call 71; refine (turns_any _ _).mono ?_; rintro e w1 ⟨rfl, rfl⟩))
  all_goals (refine bodyPost_ret ?_ rfl ⟨InstPost.of _ rfl, ?_⟩; (focus (simp [results, Tryd.results35, go_sem, HT.out, Inst.cells])); repeat (first | with_reducible exact Below.refl _ _ | with_reducible exact HB3.out | with_reducible refine Below.drew ?_ | with_reducible refine below_drewN ?_ _ | with_reducible refine Below.setCell ?_ ?_ _ | with_reducible refine Below.alloc ?_ ?_ _ | with_reducible exact HB2.out | with_reducible exact HB1.out | with_reducible refine Below.trans ?_ (Below.mono hb3 ?_) | with_reducible refine Below.trans ?_ (Below.mono hb5 ?_) | with_reducible refine Below.trans ?_ (Below.mono hb4 ?_) | omega | (simp; omega) | simp))

end Go.Proofs.YtlalmbklhmpngaaDoor
namespace Go.Proofs.YtlalmbklhmpngaaDoor
open Go.RowKit

theorem one_any (op dst an bn fn : Int) (ar br : Bool) (ap : Option Addr) (al ac : Nat) (w : World) (ha : I64 an) :
    Calls Tryd.prog 35 #[.agg #[.int .i64 op, .int .i64 dst, .bool ar, .int .i64 an, .bool br, .int .i64 bn, .int .i64 fn, .slice ap al ac]] w fun e w' => InstPost (· = oneI op dst an bn fn ar br ap al ac) e ∧ Below w.heap.size w w' := by
  by_cases h0 : op ≤ 1 ∨ 17 < op
  · exact one_no op dst an bn fn ar br ap al ac w h0
  by_cases h1 : op = 16 ∨ op = 17
  · cases ar
    · exact one_lone_n op dst an bn fn br ap al ac w h1 ha
    · exact one_lone_r op dst an bn fn br ap al ac w h1
  have h2 : 2 ≤ op ∧ op ≤ 15 := by omega
  cases ar <;> cases br
  · cases ht : (twoL op an bn).2
    · exact one_ff0 op dst an bn fn ap al ac w h2 ha ht
    · exact one_ff op dst an bn fn ap al ac w h2 ha ht
  · cases ht : turnB op
    · exact one_ft0 op dst an bn fn ap al ac w h2 ht
    · refine one_ft1 op dst an bn fn ap al ac w h2 ht ?_
      rw [beq_eq_false_iff_ne]; rintro rfl; revert ht; decide
  · by_cases h3 : op = 3
    · subst h3; exact one_sub dst an bn fn ap al ac w
    · exact one_tf op dst an bn fn ap al ac w h2 (by simpa using h3)
  · by_cases hn : an = bn
    · subst hn; exact one_tt op dst an fn ap al ac w h2
    · exact one_tu op dst an bn fn ap al ac w h2 (by simpa using hn)

end Go.Proofs.YtlalmbklhmpngaaDoor
