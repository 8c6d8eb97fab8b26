/-
  The contracts of simple.one and simple.One.
-/
import Derived.Test.YteckkdmgkikeaaaSoD
import Derived.Test.YteckkdmgkikeaaaSoE
import Derived.Test.YteckkdmgkikeaaaSoB
import Derived.WalkKit
import Derived.WalkSpells
import Derived.WalkLawsBesides
namespace Go.Proofs.Yteckkdmgkikeaaa
open Go.RowKit

-- a register and a number
set_option maxRecDepth 100000 in
set_option maxHeartbeats 2000000 in
theorem one_tf (op dst an bn fn : Int) (ap : Option Addr) (al ac : Nat) (w : World) (h : 2 ≤ op ∧ op ≤ 15) (h3 : (op == 3) = false) :
    Calls Try.prog 9 #[.agg #[.int .i64 op, .int .i64 dst, .bool true, .int .i64 an, .bool false, .int .i64 bn, .int .i64 fn, .slice ap al ac]] w fun e w' => InstPost (· = oneI op dst an bn fn true false ap al ac) e ∧ Below w.heap.size w w' := by
  have h1 : (op == 1) = false := by rw [beq_eq_false_iff_ne]; omega
  have hr : recB op = true := by unfold recB; rw [decide_eq_true_eq]; omega
  have HT : Hid (oneI op dst an bn fn true false ap al ac = fixI op bn dst an fn true ap al ac) := by
    show _ = _
    have : op ≠ 3 := by simpa using h3
    unfold oneI; rw [if_neg (by omega), if_neg (by omega), if_neg (by simp), if_neg (by simp), if_neg (by simp; exact this), if_pos rfl]
  have hfl := run_fieldB true true true
  go_enter Try.func9, Try.ntmps9
  go_wp2_with (first | (go_at_call 14; refine (reckons_any _ _).mono ?_; rintro e w1 ⟨rfl, rfl⟩) | (go_at_call 15; refine (shapes_two _ _ ?_).mono ?_; (focus omega); rintro e w1 ⟨rfl, rfl⟩) | (go_at_call 19; refine (turns_any _ _).mono ?_; rintro e w1 ⟨rfl, rfl⟩) | (go_at_call 20; refine (fixed_any _ _ _ _ _ _ _ _ _ _ ?_).mono ?_; (focus omega); rintro e w3 ⟨⟨o3, d3, r3, n3, s3, m3, f3, p3, l3, c3, rfl, hP3⟩, hb3⟩; obtain ⟨hc3, hf3, hz3⟩ := bcell hb3; simp at hz3))
  all_goals exact bodyPost_ret (v := .agg #[.int .i64 o3, .int .i64 d3, .bool r3, .int .i64 n3, .bool s3, .int .i64 m3, .int .i64 f3, .slice p3 l3 c3]) (by simp [results, Try.results9, go_sem, hc3]) rfl ⟨⟨o3, d3, r3, n3, s3, m3, f3, p3, l3, c3, rfl, by rw [HT.out]; exact hP3⟩, by repeat (first | with_reducible exact Below.refl _ _ | with_reducible exact HB3.out | with_reducible refine Below.drew ?_ | with_reducible refine below_drewN ?_ _ | with_reducible refine Below.setCell ?_ ?_ _ | with_reducible refine Below.alloc ?_ ?_ _ | with_reducible exact HB2.out | with_reducible exact HB1.out | with_reducible refine Below.trans ?_ (Below.mono hb3 ?_) | with_reducible refine Below.trans ?_ (Below.mono hb5 ?_) | with_reducible refine Below.trans ?_ (Below.mono hb4 ?_) | omega | (simp; omega) | simp)⟩
-- a register less a number
set_option maxRecDepth 100000 in
set_option maxHeartbeats 2000000 in
theorem one_sub (dst an bn fn : Int) (ap : Option Addr) (al ac : Nat) (w : World) :
    Calls Try.prog 9 #[.agg #[.int .i64 3, .int .i64 dst, .bool true, .int .i64 an, .bool false, .int .i64 bn, .int .i64 fn, .slice ap al ac]] w fun e w' => InstPost (· = oneI 3 dst an bn fn true false ap al ac) e ∧ Below w.heap.size w w' := by
  have hr : recB 3 = true := rfl
  have hwr : ∀ n, IntKind.i64.wrap n = wrap64 n := IntWalk.i64_left
  have hfl := run_fieldB true true true
  have ht3 : turnB 3 = false := rfl
  go_enter Try.func9, Try.ntmps9
  go_wp2_with (first | (go_at_call 14; refine (reckons_any _ _).mono ?_; rintro e w1 ⟨rfl, rfl⟩) | (go_at_call 15; refine (shapes_two _ _ ?_).mono ?_; (focus omega); rintro e w1 ⟨rfl, rfl⟩) | (go_at_call 19; refine (turns_any _ _).mono ?_; rintro e w1 ⟨rfl, rfl⟩))
  go_region_with (first | (go_at_call 18; refine (num_any _ _).mono ?_; rintro e w1 ⟨rfl, rfl⟩) | (go_at_call 17; refine (made2_any _ _ ?_ ?_ ?_ ?_ _ _ _ _ ?_ ?_ ?_ ?_).mono ?_; rotate_left 4; (focus (go_simp; rfl)); (focus (go_simp; rfl)); (focus (go_simp; rfl)); (focus (go_simp; rfl)); rintro e w2 ⟨rfl, rfl⟩))
  all_goals go_wp2_with (first | (go_at_call 20; refine (fixed_any _ _ _ _ _ _ _ _ _ _ ?_).mono ?_; (focus omega); rintro e w3 ⟨⟨o3, d3, r3, n3, s3, m3, f3, p3, l3, c3, rfl, hP3⟩, hb3⟩; obtain ⟨hc3, hf3, hz3⟩ := bcell hb3; simp at hz3))
  all_goals exact bodyPost_ret (v := .agg #[.int .i64 o3, .int .i64 d3, .bool r3, .int .i64 n3, .bool s3, .int .i64 m3, .int .i64 f3, .slice p3 l3 c3]) (by simp [results, Try.results9, go_sem, hc3]) rfl ⟨⟨o3, d3, r3, n3, s3, m3, f3, p3, l3, c3, rfl, hP3⟩, by repeat (first | with_reducible exact Below.refl _ _ | with_reducible exact HB3.out | with_reducible refine Below.drew ?_ | with_reducible refine below_drewN ?_ _ | with_reducible refine Below.setCell ?_ ?_ _ | with_reducible refine Below.alloc ?_ ?_ _ | with_reducible exact HB2.out | with_reducible exact HB1.out | with_reducible refine Below.trans ?_ (Below.mono hb3 ?_) | with_reducible refine Below.trans ?_ (Below.mono hb5 ?_) | with_reducible refine Below.trans ?_ (Below.mono hb4 ?_) | omega | (simp; omega) | simp)⟩
-- a number and a register, that change places
set_option maxRecDepth 100000 in
set_option maxHeartbeats 2000000 in
theorem one_ft1 (op dst an bn fn : Int) (ap : Option Addr) (al ac : Nat) (w : World) (h : 2 ≤ op ∧ op ≤ 15) (ht : turnB op = true) (h3 : (op == 3) = false) :
    Calls Try.prog 9 #[.agg #[.int .i64 op, .int .i64 dst, .bool false, .int .i64 an, .bool true, .int .i64 bn, .int .i64 fn, .slice ap al ac]] w fun e w' => InstPost (· = oneI op dst an bn fn false true ap al ac) e ∧ Below w.heap.size w w' := by
  have h1 : (op == 1) = false := by rw [beq_eq_false_iff_ne]; omega
  have hr : recB op = true := by unfold recB; rw [decide_eq_true_eq]; omega
  have HT : Hid (oneI op dst an bn fn false true ap al ac = fixI op an dst bn fn true ap al ac) := by
    show _ = _
    unfold oneI; rw [if_neg (by omega), if_neg (by omega), if_neg (by simp), if_pos ⟨rfl, ht⟩]
  have hfl := run_fieldB true true true
  go_enter Try.func9, Try.ntmps9
  go_wp2_with (first | (go_at_call 14; refine (reckons_any _ _).mono ?_; rintro e w1 ⟨rfl, rfl⟩) | (go_at_call 15; refine (shapes_two _ _ ?_).mono ?_; (focus omega); rintro e w1 ⟨rfl, rfl⟩) | (go_at_call 19; refine (turns_any _ _).mono ?_; rintro e w1 ⟨rfl, rfl⟩) | (go_at_call 20; refine (fixed_any _ _ _ _ _ _ _ _ _ _ ?_).mono ?_; (focus omega); rintro e w3 ⟨⟨o3, d3, r3, n3, s3, m3, f3, p3, l3, c3, rfl, hP3⟩, hb3⟩; obtain ⟨hc3, hf3, hz3⟩ := bcell hb3; simp at hz3))
  all_goals exact bodyPost_ret (v := .agg #[.int .i64 o3, .int .i64 d3, .bool r3, .int .i64 n3, .bool s3, .int .i64 m3, .int .i64 f3, .slice p3 l3 c3]) (by simp [results, Try.results9, go_sem, hc3]) rfl ⟨⟨o3, d3, r3, n3, s3, m3, f3, p3, l3, c3, rfl, by rw [HT.out]; exact hP3⟩, by repeat (first | with_reducible exact Below.refl _ _ | with_reducible exact HB3.out | with_reducible refine Below.drew ?_ | with_reducible refine below_drewN ?_ _ | with_reducible refine Below.setCell ?_ ?_ _ | with_reducible refine Below.alloc ?_ ?_ _ | with_reducible exact HB2.out | with_reducible exact HB1.out | with_reducible refine Below.trans ?_ (Below.mono hb3 ?_) | with_reducible refine Below.trans ?_ (Below.mono hb5 ?_) | with_reducible refine Below.trans ?_ (Below.mono hb4 ?_) | omega | (simp; omega) | simp)⟩
-- a number and a register
set_option maxRecDepth 100000 in
set_option maxHeartbeats 2000000 in
theorem one_ft0 (op dst an bn fn : Int) (ap : Option Addr) (al ac : Nat) (w : World) (h : 2 ≤ op ∧ op ≤ 15) (ht : turnB op = false) :
    Calls Try.prog 9 #[.agg #[.int .i64 op, .int .i64 dst, .bool false, .int .i64 an, .bool true, .int .i64 bn, .int .i64 fn, .slice ap al ac]] w fun e w' => InstPost (· = oneI op dst an bn fn false true ap al ac) e ∧ Below w.heap.size w w' := by
  have h1 : (op == 1) = false := by rw [beq_eq_false_iff_ne]; omega
  have hr : recB op = true := by unfold recB; rw [decide_eq_true_eq]; omega
  have HT : Hid (oneI op dst an bn fn false true ap al ac = ledI op an dst bn fn ap al ac) := by
    show _ = _
    unfold oneI; rw [if_neg (by omega), if_neg (by omega), if_neg (by simp), if_neg (by simp [ht]), if_neg (by simp), if_neg (by simp), if_pos rfl]
  have hfl := run_fieldB true true true
  by_cases h3e : op = 3
  · subst h3e
    go_enter Try.func9, Try.ntmps9
    go_wp2_with (first | (go_at_call 14; refine (reckons_any _ _).mono ?_; rintro e w1 ⟨rfl, rfl⟩) | (go_at_call 15; refine (shapes_two _ _ ?_).mono ?_; (focus omega); rintro e w1 ⟨rfl, rfl⟩) | (go_at_call 19; refine (turns_any _ _).mono ?_; rintro e w1 ⟨rfl, rfl⟩) | (go_at_call 21; refine (led_any _ _ _ _ _ _ _ _ _).mono ?_; rintro e w3 ⟨⟨o3, d3, r3, n3, s3, m3, f3, p3, l3, c3, rfl, hP3⟩, hb3⟩; obtain ⟨hc3, hf3, hz3⟩ := bcell hb3; simp at hz3))
    all_goals exact bodyPost_ret (v := .agg #[.int .i64 o3, .int .i64 d3, .bool r3, .int .i64 n3, .bool s3, .int .i64 m3, .int .i64 f3, .slice p3 l3 c3]) (by simp [results, Try.results9, go_sem, hc3]) rfl ⟨⟨o3, d3, r3, n3, s3, m3, f3, p3, l3, c3, rfl, by rw [HT.out]; exact hP3⟩, by repeat (first | with_reducible exact Below.refl _ _ | with_reducible exact HB3.out | with_reducible refine Below.drew ?_ | with_reducible refine below_drewN ?_ _ | with_reducible refine Below.setCell ?_ ?_ _ | with_reducible refine Below.alloc ?_ ?_ _ | with_reducible exact HB2.out | with_reducible exact HB1.out | with_reducible refine Below.trans ?_ (Below.mono hb3 ?_) | with_reducible refine Below.trans ?_ (Below.mono hb5 ?_) | with_reducible refine Below.trans ?_ (Below.mono hb4 ?_) | omega | (simp; omega) | simp)⟩
  · have h3b : (op == 3) = false := by simpa using h3e
    clear h3e
    go_enter Try.func9, Try.ntmps9
    go_wp2_with (first | (go_at_call 14; refine (reckons_any _ _).mono ?_; rintro e w1 ⟨rfl, rfl⟩) | (go_at_call 15; refine (shapes_two _ _ ?_).mono ?_; (focus omega); rintro e w1 ⟨rfl, rfl⟩) | (go_at_call 19; refine (turns_any _ _).mono ?_; rintro e w1 ⟨rfl, rfl⟩) | (go_at_call 21; refine (led_any _ _ _ _ _ _ _ _ _).mono ?_; rintro e w3 ⟨⟨o3, d3, r3, n3, s3, m3, f3, p3, l3, c3, rfl, hP3⟩, hb3⟩; obtain ⟨hc3, hf3, hz3⟩ := bcell hb3; simp at hz3))
    all_goals exact bodyPost_ret (v := .agg #[.int .i64 o3, .int .i64 d3, .bool r3, .int .i64 n3, .bool s3, .int .i64 m3, .int .i64 f3, .slice p3 l3 c3]) (by simp [results, Try.results9, go_sem, hc3]) rfl ⟨⟨o3, d3, r3, n3, s3, m3, f3, p3, l3, c3, rfl, by rw [HT.out]; exact hP3⟩, by repeat (first | with_reducible exact Below.refl _ _ | with_reducible exact HB3.out | with_reducible refine Below.drew ?_ | with_reducible refine below_drewN ?_ _ | with_reducible refine Below.setCell ?_ ?_ _ | with_reducible refine Below.alloc ?_ ?_ _ | with_reducible exact HB2.out | with_reducible exact HB1.out | with_reducible refine Below.trans ?_ (Below.mono hb3 ?_) | with_reducible refine Below.trans ?_ (Below.mono hb5 ?_) | with_reducible refine Below.trans ?_ (Below.mono hb4 ?_) | omega | (simp; omega) | simp)⟩
-- the same register twice
set_option maxRecDepth 100000 in
set_option maxHeartbeats 2000000 in
theorem one_tt (op dst an fn : Int) (ap : Option Addr) (al ac : Nat) (w : World) (h : 2 ≤ op ∧ op ≤ 15) :
    Calls Try.prog 9 #[.agg #[.int .i64 op, .int .i64 dst, .bool true, .int .i64 an, .bool true, .int .i64 an, .int .i64 fn, .slice ap al ac]] w fun e w' => InstPost (· = oneI op dst an an fn true true ap al ac) e ∧ Below w.heap.size w w' := by
  have h1 : (op == 1) = false := by rw [beq_eq_false_iff_ne]; omega
  have hr : recB op = true := by unfold recB; rw [decide_eq_true_eq]; omega
  have HT : Hid (oneI op dst an an fn true true ap al ac = aliI op dst an fn ap al ac) := by
    show _ = _
    unfold oneI; rw [if_neg (by omega), if_neg (by omega), if_neg (by simp), if_neg (by simp), if_neg (by simp), if_neg (by simp), if_neg (by simp), if_pos rfl]
  have hfl := run_fieldB true true true
  by_cases h3e : op = 3
  · subst h3e
    go_enter Try.func9, Try.ntmps9
    go_wp2_with (first | (go_at_call 14; refine (reckons_any _ _).mono ?_; rintro e w1 ⟨rfl, rfl⟩) | (go_at_call 15; refine (shapes_two _ _ ?_).mono ?_; (focus omega); rintro e w1 ⟨rfl, rfl⟩) | (go_at_call 19; refine (turns_any _ _).mono ?_; rintro e w1 ⟨rfl, rfl⟩) | (go_at_call 22; refine (ali_any _ _ _ _ _ _ _ _ ?_).mono ?_; (focus omega); rintro e w3 ⟨⟨o3, d3, r3, n3, s3, m3, f3, p3, l3, c3, rfl, hP3⟩, hb3⟩; obtain ⟨hc3, hf3, hz3⟩ := bcell hb3; simp at hz3))
    all_goals exact bodyPost_ret (v := .agg #[.int .i64 o3, .int .i64 d3, .bool r3, .int .i64 n3, .bool s3, .int .i64 m3, .int .i64 f3, .slice p3 l3 c3]) (by simp [results, Try.results9, go_sem, hc3]) rfl ⟨⟨o3, d3, r3, n3, s3, m3, f3, p3, l3, c3, rfl, by rw [HT.out]; exact hP3⟩, by repeat (first | with_reducible exact Below.refl _ _ | with_reducible exact HB3.out | with_reducible refine Below.drew ?_ | with_reducible refine below_drewN ?_ _ | with_reducible refine Below.setCell ?_ ?_ _ | with_reducible refine Below.alloc ?_ ?_ _ | with_reducible exact HB2.out | with_reducible exact HB1.out | with_reducible refine Below.trans ?_ (Below.mono hb3 ?_) | with_reducible refine Below.trans ?_ (Below.mono hb5 ?_) | with_reducible refine Below.trans ?_ (Below.mono hb4 ?_) | omega | (simp; omega) | simp)⟩
  · have h3b : (op == 3) = false := by simpa using h3e
    clear h3e
    go_enter Try.func9, Try.ntmps9
    go_wp2_with (first | (go_at_call 14; refine (reckons_any _ _).mono ?_; rintro e w1 ⟨rfl, rfl⟩) | (go_at_call 15; refine (shapes_two _ _ ?_).mono ?_; (focus omega); rintro e w1 ⟨rfl, rfl⟩) | (go_at_call 19; refine (turns_any _ _).mono ?_; rintro e w1 ⟨rfl, rfl⟩) | (go_at_call 22; refine (ali_any _ _ _ _ _ _ _ _ ?_).mono ?_; (focus omega); rintro e w3 ⟨⟨o3, d3, r3, n3, s3, m3, f3, p3, l3, c3, rfl, hP3⟩, hb3⟩; obtain ⟨hc3, hf3, hz3⟩ := bcell hb3; simp at hz3))
    all_goals exact bodyPost_ret (v := .agg #[.int .i64 o3, .int .i64 d3, .bool r3, .int .i64 n3, .bool s3, .int .i64 m3, .int .i64 f3, .slice p3 l3 c3]) (by simp [results, Try.results9, go_sem, hc3]) rfl ⟨⟨o3, d3, r3, n3, s3, m3, f3, p3, l3, c3, rfl, by rw [HT.out]; exact hP3⟩, by repeat (first | with_reducible exact Below.refl _ _ | with_reducible exact HB3.out | with_reducible refine Below.drew ?_ | with_reducible refine below_drewN ?_ _ | with_reducible refine Below.setCell ?_ ?_ _ | with_reducible refine Below.alloc ?_ ?_ _ | with_reducible exact HB2.out | with_reducible exact HB1.out | with_reducible refine Below.trans ?_ (Below.mono hb3 ?_) | with_reducible refine Below.trans ?_ (Below.mono hb5 ?_) | with_reducible refine Below.trans ?_ (Below.mono hb4 ?_) | omega | (simp; omega) | simp)⟩
-- two registers
set_option maxRecDepth 100000 in
set_option maxHeartbeats 2000000 in
theorem one_tu (op dst an bn fn : Int) (ap : Option Addr) (al ac : Nat) (w : World) (h : 2 ≤ op ∧ op ≤ 15) (hn : (an == bn) = false) :
    Calls Try.prog 9 #[.agg #[.int .i64 op, .int .i64 dst, .bool true, .int .i64 an, .bool true, .int .i64 bn, .int .i64 fn, .slice ap al ac]] w fun e w' => InstPost (· = oneI op dst an bn fn true true ap al ac) e ∧ Below w.heap.size w w' := by
  have h1 : (op == 1) = false := by rw [beq_eq_false_iff_ne]; omega
  have hr : recB op = true := by unfold recB; rw [decide_eq_true_eq]; omega
  have HT : Hid (oneI op dst an bn fn true true ap al ac = ⟨op, dst, true, an, true, bn, fn, ap, al, ac⟩) := by
    show _ = _
    have hn2 : an ≠ bn := by simpa using hn
    unfold oneI; rw [if_neg (by omega), if_neg (by omega), if_neg (by simp), if_neg (by simp), if_neg (by simp), if_neg (by simp), if_neg (by simp), if_neg hn2]
  have hfl := run_fieldB true true true
  go_enter Try.func9, Try.ntmps9
  go_wp2_with (first | (go_at_call 14; refine (reckons_any _ _).mono ?_; rintro e w1 ⟨rfl, rfl⟩) | (go_at_call 15; refine (shapes_two _ _ ?_).mono ?_; (focus omega); rintro e w1 ⟨rfl, rfl⟩) | (go_at_call 19; refine (turns_any _ _).mono ?_; rintro e w1 ⟨rfl, rfl⟩))
  all_goals (refine bodyPost_ret ?_ rfl ⟨InstPost.of _ rfl, ?_⟩; (focus (simp [results, Try.results9, go_sem, HT.out, Inst.cells])); repeat (first | with_reducible exact Below.refl _ _ | with_reducible exact HB3.out | with_reducible refine Below.drew ?_ | with_reducible refine below_drewN ?_ _ | with_reducible refine Below.setCell ?_ ?_ _ | with_reducible refine Below.alloc ?_ ?_ _ | with_reducible exact HB2.out | with_reducible exact HB1.out | with_reducible refine Below.trans ?_ (Below.mono hb3 ?_) | with_reducible refine Below.trans ?_ (Below.mono hb5 ?_) | with_reducible refine Below.trans ?_ (Below.mono hb4 ?_) | omega | (simp; omega) | simp))

end Go.Proofs.Yteckkdmgkikeaaa
