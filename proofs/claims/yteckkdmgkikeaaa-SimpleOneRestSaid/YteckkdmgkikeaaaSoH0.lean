/-
  The contract of the reference's SimpleForm.
-/
import Derived.Test.YteckkdmgkikeaaaSoG
import Derived.Test.YteckkdmgkikeaaaSoM
import Derived.WalkKit
import Derived.WalkSpells
import Derived.WalkLawsBesides
namespace Go.Proofs.Yteckkdmgkikeaaa
open Go.RowKit

-- it does not reckon, or is a copy
set_option maxRecDepth 100000 in
set_option maxHeartbeats 1000000 in
theorem form_no (op dst an bn fn : Int) (ar br : Bool) (ap : Option Addr) (al ac : Nat) (w : World) (h : op ≤ 1 ∨ 17 < op) :
    Calls Try.prog 8 #[.agg #[.int .i64 op, .int .i64 dst, .bool ar, .int .i64 an, .bool br, .int .i64 bn, .int .i64 fn, .slice ap al ac]] w fun e w' => InstPost (· = oneI op dst an bn fn ar br ap al ac) e ∧ Below w.heap.size w w' := by
  have HT : Hid (oneI op dst an bn fn ar br ap al ac = _) := oneI_no h
  rcases h with h | h
  all_goals
    go_enter Try.func8, Try.ntmps8
    go_wp2
    all_goals (refine bodyPost_ret ?_ rfl ⟨InstPost.of _ rfl, ?_⟩; (focus (first | (simp [results, Try.results8, go_sem, HT.out, Inst.cells, *]; done) | (simp_all [results, Try.results8, go_sem, HT.out, Inst.cells]; done))); repeat (first | with_reducible exact Below.refl _ _ | with_reducible exact HB3.out | with_reducible refine Below.drew ?_ | with_reducible refine below_drewN ?_ _ | with_reducible refine Below.setCell ?_ ?_ _ | with_reducible refine Below.alloc ?_ ?_ _ | with_reducible exact HB2.out | with_reducible exact HB1.out | with_reducible refine Below.trans ?_ (Below.mono hb3 ?_) | with_reducible refine Below.trans ?_ (Below.mono hb5 ?_) | with_reducible refine Below.trans ?_ (Below.mono hb4 ?_) | omega | (simp; omega) | simp))

-- OpNeg, OpNot
set_option maxRecDepth 100000 in
set_option maxHeartbeats 1000000 in
theorem form_lone (op dst an bn fn : Int) (ar br : Bool) (ap : Option Addr) (al ac : Nat) (w : World) (h : op = 16 ∨ op = 17) (ha : I64 an) :
    Calls Try.prog 8 #[.agg #[.int .i64 op, .int .i64 dst, .bool ar, .int .i64 an, .bool br, .int .i64 bn, .int .i64 fn, .slice ap al ac]] w fun e w' => InstPost (· = oneI op dst an bn fn ar br ap al ac) e ∧ Below w.heap.size w w' := by
  have HA : Hid (I64 an) := ha
  clear ha
  have HT : Hid True := trivial
  have t16 : (twoL 16 an bn).2 = true := rfl
  have t17 : (twoL 17 an bn).2 = true := rfl
  rcases h with rfl | rfl
  all_goals
    cases ar
    all_goals
      go_enter Try.func8, Try.ntmps8
      go_wp2_with (first | (go_at_call 11; refine (rtwo_any _ _ _ ?_ ?_ _).mono ?_; (focus omega); (focus exact HA.out); rintro e w1 ⟨rfl, rfl⟩) | (go_at_call 12; refine (copyOf_any _ _ _ _).mono ?_; rintro e w1 ⟨rfl, rfl⟩))
      all_goals (refine bodyPost_ret ?_ rfl ⟨InstPost.of _ rfl, ?_⟩; (focus (simp [results, Try.results8, go_sem, oneI, one1, Inst.cells])); repeat (first | with_reducible exact Below.refl _ _ | with_reducible exact HB3.out | with_reducible refine Below.drew ?_ | with_reducible refine below_drewN ?_ _ | with_reducible refine Below.setCell ?_ ?_ _ | with_reducible refine Below.alloc ?_ ?_ _ | with_reducible exact HB2.out | with_reducible exact HB1.out | with_reducible refine Below.trans ?_ (Below.mono hb3 ?_) | with_reducible refine Below.trans ?_ (Below.mono hb5 ?_) | with_reducible refine Below.trans ?_ (Below.mono hb4 ?_) | omega | (simp; omega) | simp))

-- two numbers
set_option maxRecDepth 100000 in
set_option maxHeartbeats 2000000 in
theorem form_ff (op dst an bn fn : Int) (ap : Option Addr) (al ac : Nat) (w : World) (h : 2 ≤ op ∧ op ≤ 15) (ha : I64 an) :
    Calls Try.prog 8 #[.agg #[.int .i64 op, .int .i64 dst, .bool false, .int .i64 an, .bool false, .int .i64 bn, .int .i64 fn, .slice ap al ac]] w fun e w' => InstPost (· = oneI op dst an bn fn false false ap al ac) e ∧ Below w.heap.size w w' := by
  have h16 : (op == 16) = false := by rw [beq_eq_false_iff_ne]; omega
  have h17 : (op == 17) = false := by rw [beq_eq_false_iff_ne]; omega
  have HA : Hid (I64 an) := ha
  clear ha
  cases ht : (twoL op an bn).2
  · have HT : Hid (oneI op dst an bn fn false false ap al ac = _) := oneI_ff0 h ht
    go_enter Try.func8, Try.ntmps8
    go_wp2_with (first | (go_at_call 11; refine (rtwo_any _ _ _ ?_ ?_ _).mono ?_; (focus omega); (focus exact HA.out); rintro e w1 ⟨rfl, rfl⟩) | (go_at_call 12; refine (copyOf_any _ _ _ _).mono ?_; rintro e w1 ⟨rfl, rfl⟩))
    all_goals (refine bodyPost_ret ?_ rfl ⟨InstPost.of _ rfl, ?_⟩; (focus (first | (simp [results, Try.results8, go_sem, HT.out, Inst.cells, *]; done) | (simp_all [results, Try.results8, go_sem, HT.out, Inst.cells]; done))); repeat (first | with_reducible exact Below.refl _ _ | with_reducible exact HB3.out | with_reducible refine Below.drew ?_ | with_reducible refine below_drewN ?_ _ | with_reducible refine Below.setCell ?_ ?_ _ | with_reducible refine Below.alloc ?_ ?_ _ | with_reducible exact HB2.out | with_reducible exact HB1.out | with_reducible refine Below.trans ?_ (Below.mono hb3 ?_) | with_reducible refine Below.trans ?_ (Below.mono hb5 ?_) | with_reducible refine Below.trans ?_ (Below.mono hb4 ?_) | omega | (simp; omega) | simp))
  · have HT : Hid (oneI op dst an bn fn false false ap al ac = _) := oneI_ff h ht
    go_enter Try.func8, Try.ntmps8
    go_wp2_with (first | (go_at_call 11; refine (rtwo_any _ _ _ ?_ ?_ _).mono ?_; (focus omega); (focus exact HA.out); rintro e w1 ⟨rfl, rfl⟩) | (go_at_call 12; refine (copyOf_any _ _ _ _).mono ?_; rintro e w1 ⟨rfl, rfl⟩))
    all_goals (refine bodyPost_ret ?_ rfl ⟨InstPost.of _ rfl, ?_⟩; (focus (first | (simp [results, Try.results8, go_sem, HT.out, one1, Inst.cells, *]; done) | (simp_all [results, Try.results8, go_sem, HT.out, one1, Inst.cells]; done))); repeat (first | with_reducible exact Below.refl _ _ | with_reducible exact HB3.out | with_reducible refine Below.drew ?_ | with_reducible refine below_drewN ?_ _ | with_reducible refine Below.setCell ?_ ?_ _ | with_reducible refine Below.alloc ?_ ?_ _ | with_reducible exact HB2.out | with_reducible exact HB1.out | with_reducible refine Below.trans ?_ (Below.mono hb3 ?_) | with_reducible refine Below.trans ?_ (Below.mono hb5 ?_) | with_reducible refine Below.trans ?_ (Below.mono hb4 ?_) | omega | (simp; omega) | simp))

-- a register and a number
set_option maxRecDepth 100000 in
set_option maxHeartbeats 2000000 in
theorem form_tf (op dst an bn fn : Int) (ap : Option Addr) (al ac : Nat) (w : World) (h : 2 ≤ op ∧ op ≤ 15) (h3 : op ≠ 3) :
    Calls Try.prog 8 #[.agg #[.int .i64 op, .int .i64 dst, .bool true, .int .i64 an, .bool false, .int .i64 bn, .int .i64 fn, .slice ap al ac]] w fun e w' => InstPost (· = oneI op dst an bn fn true false ap al ac) e ∧ Below w.heap.size w w' := by
  have h16 : (op == 16) = false := by rw [beq_eq_false_iff_ne]; omega
  have h17 : (op == 17) = false := by rw [beq_eq_false_iff_ne]; omega
  have h3b : (op == 3) = false := by simpa using h3
  have HT : Hid (oneI op dst an bn fn true false ap al ac = _) := oneI_tf h h3
  clear h3
  go_enter Try.func8, Try.ntmps8
  go_wp2_with (first | (go_at_call 13; refine (behind_any _ _ _ _ _ _ _ _ _ _ ?_).mono ?_; (focus omega); rintro e w3 ⟨⟨o3, d3, r3, n3, s3, m3, f3, p3, l3, c3, rfl, hP3⟩, hb3⟩; obtain ⟨hc3, hf3, hz3⟩ := bcell hb3; simp at hz3))
  all_goals exact bodyPost_ret (v := .agg #[.int .i64 o3, .int .i64 d3, .bool r3, .int .i64 n3, .bool s3, .int .i64 m3, .int .i64 f3, .slice p3 l3 c3]) (by simp [results, Try.results8, go_sem, hc3]) rfl ⟨⟨o3, d3, r3, n3, s3, m3, f3, p3, l3, c3, rfl, by rw [HT.out]; exact hP3⟩, by repeat (first | with_reducible exact Below.refl _ _ | with_reducible exact HB3.out | with_reducible refine Below.drew ?_ | with_reducible refine below_drewN ?_ _ | with_reducible refine Below.setCell ?_ ?_ _ | with_reducible refine Below.alloc ?_ ?_ _ | with_reducible exact HB2.out | with_reducible exact HB1.out | with_reducible refine Below.trans ?_ (Below.mono hb3 ?_) | with_reducible refine Below.trans ?_ (Below.mono hb5 ?_) | with_reducible refine Below.trans ?_ (Below.mono hb4 ?_) | omega | (simp; omega) | simp)⟩
-- a register less a number
set_option maxRecDepth 100000 in
set_option maxHeartbeats 2000000 in
theorem form_sub (dst an bn fn : Int) (ap : Option Addr) (al ac : Nat) (w : World) :
    Calls Try.prog 8 #[.agg #[.int .i64 3, .int .i64 dst, .bool true, .int .i64 an, .bool false, .int .i64 bn, .int .i64 fn, .slice ap al ac]] w fun e w' => InstPost (· = oneI 3 dst an bn fn true false ap al ac) e ∧ Below w.heap.size w w' := by
  have hwr : ∀ n, IntKind.i64.wrap n = wrap64 n := IntWalk.i64_left
  go_enter Try.func8, Try.ntmps8
  go_wp2_with (first | (go_at_call 13; refine (behind_any _ _ _ _ _ _ _ _ _ _ ?_).mono ?_; (focus omega); rintro e w3 ⟨⟨o3, d3, r3, n3, s3, m3, f3, p3, l3, c3, rfl, hP3⟩, hb3⟩; obtain ⟨hc3, hf3, hz3⟩ := bcell hb3; simp at hz3))
  all_goals exact bodyPost_ret (v := .agg #[.int .i64 o3, .int .i64 d3, .bool r3, .int .i64 n3, .bool s3, .int .i64 m3, .int .i64 f3, .slice p3 l3 c3]) (by simp [results, Try.results8, go_sem, hc3]) rfl ⟨⟨o3, d3, r3, n3, s3, m3, f3, p3, l3, c3, rfl, hP3⟩, by repeat (first | with_reducible exact Below.refl _ _ | with_reducible exact HB3.out | with_reducible refine Below.drew ?_ | with_reducible refine below_drewN ?_ _ | with_reducible refine Below.setCell ?_ ?_ _ | with_reducible refine Below.alloc ?_ ?_ _ | with_reducible exact HB2.out | with_reducible exact HB1.out | with_reducible refine Below.trans ?_ (Below.mono hb3 ?_) | with_reducible refine Below.trans ?_ (Below.mono hb5 ?_) | with_reducible refine Below.trans ?_ (Below.mono hb4 ?_) | omega | (simp; omega) | simp)⟩
end Go.Proofs.Yteckkdmgkikeaaa
