/-
  The contract of the reference's SimpleForm.
-/
import Derived.Test.YteckkdmgkikeaaaSoG
import Derived.Test.YteckkdmgkikeaaaSoM
import Derived.WalkKit
import Derived.WalkSpells
import Derived.WalkLawsBesides
namespace Go.Proofs.Yteckkdmgkikeaaa
open Go.RowKit

-- a number and a register
set_option maxRecDepth 100000 in
set_option maxHeartbeats 4000000 in
theorem form_ft1 (op dst an bn fn : Int) (ap : Option Addr) (al ac : Nat) (w : World) (h0 : op = 2 ∨ op = 4 ∨ op = 7 ∨ op = 8 ∨ op = 9 ∨ op = 12 ∨ op = 13) :
    Calls Try.prog 8 #[.agg #[.int .i64 op, .int .i64 dst, .bool false, .int .i64 an, .bool true, .int .i64 bn, .int .i64 fn, .slice ap al ac]] w fun e w' => InstPost (· = oneI op dst an bn fn false true ap al ac) e ∧ Below w.heap.size w w' := by
  have HT : Hid (oneI op dst an bn fn false true ap al ac = _) := oneI_ft1 (by omega) (by rcases h0 with rfl | rfl | rfl | rfl | rfl | rfl | rfl <;> rfl)
  rcases h0 with rfl | rfl | rfl | rfl | rfl | rfl | rfl
  all_goals
    go_enter Try.func8, Try.ntmps8
    go_wp2_with (first | (go_at_call 13; refine (behind_any _ _ _ _ _ _ _ _ _ _ ?_).mono ?_; (focus omega); rintro e w3 ⟨⟨o3, d3, r3, n3, s3, m3, f3, p3, l3, c3, rfl, hP3⟩, hb3⟩; obtain ⟨hc3, hf3, hz3⟩ := bcell hb3; simp at hz3))
    all_goals exact bodyPost_ret (v := .agg #[.int .i64 o3, .int .i64 d3, .bool r3, .int .i64 n3, .bool s3, .int .i64 m3, .int .i64 f3, .slice p3 l3 c3]) (by simp [results, Try.results8, go_sem, hc3]) rfl ⟨⟨o3, d3, r3, n3, s3, m3, f3, p3, l3, c3, rfl, by rw [HT.out]; exact hP3⟩, by repeat (first | with_reducible exact Below.refl _ _ | with_reducible exact HB3.out | with_reducible refine Below.drew ?_ | with_reducible refine below_drewN ?_ _ | with_reducible refine Below.setCell ?_ ?_ _ | with_reducible refine Below.alloc ?_ ?_ _ | with_reducible exact HB2.out | with_reducible exact HB1.out | with_reducible refine Below.trans ?_ (Below.mono hb3 ?_) | with_reducible refine Below.trans ?_ (Below.mono hb5 ?_) | with_reducible refine Below.trans ?_ (Below.mono hb4 ?_) | omega | (simp; omega) | simp)⟩
set_option maxRecDepth 100000 in
set_option maxHeartbeats 4000000 in
theorem form_ft0 (op dst an bn fn : Int) (ap : Option Addr) (al ac : Nat) (w : World) (h0 : op = 3 ∨ op = 5 ∨ op = 6 ∨ op = 10 ∨ op = 11 ∨ op = 14 ∨ op = 15) :
    Calls Try.prog 8 #[.agg #[.int .i64 op, .int .i64 dst, .bool false, .int .i64 an, .bool true, .int .i64 bn, .int .i64 fn, .slice ap al ac]] w fun e w' => InstPost (· = oneI op dst an bn fn false true ap al ac) e ∧ Below w.heap.size w w' := by
  rcases h0 with rfl | rfl | rfl | rfl | rfl | rfl | rfl
  all_goals
    go_enter Try.func8, Try.ntmps8
    go_wp2_with (first | (go_at_call 12; refine (copyOf_any _ _ _ _).mono ?_; rintro e w1 ⟨rfl, rfl⟩))
    all_goals (refine bodyPost_ret ?_ rfl ⟨InstPost.of _ rfl, ?_⟩; (focus (first | (simp [results, Try.results8, go_sem, oneI, turnB, one1, ledI, Inst.cells, *]; done) | (simp_all [results, Try.results8, go_sem, oneI, turnB, one1, ledI, Inst.cells]; done))); repeat (first | with_reducible exact Below.refl _ _ | with_reducible exact HB3.out | with_reducible refine Below.drew ?_ | with_reducible refine below_drewN ?_ _ | with_reducible refine Below.setCell ?_ ?_ _ | with_reducible refine Below.alloc ?_ ?_ _ | with_reducible exact HB2.out | with_reducible exact HB1.out | with_reducible refine Below.trans ?_ (Below.mono hb3 ?_) | with_reducible refine Below.trans ?_ (Below.mono hb5 ?_) | with_reducible refine Below.trans ?_ (Below.mono hb4 ?_) | omega | (simp; omega) | simp))
-- the same register twice
set_option maxRecDepth 100000 in
set_option maxHeartbeats 4000000 in
theorem form_tt (op dst an fn : Int) (ap : Option Addr) (al ac : Nat) (w : World) (h0 : op = 2 ∨ op = 3 ∨ op = 4 ∨ op = 5 ∨ op = 6 ∨ op = 7 ∨ op = 8 ∨ op = 9 ∨ op = 10 ∨ op = 11 ∨ op = 12 ∨ op = 13 ∨ op = 14 ∨ op = 15) :
    Calls Try.prog 8 #[.agg #[.int .i64 op, .int .i64 dst, .bool true, .int .i64 an, .bool true, .int .i64 an, .int .i64 fn, .slice ap al ac]] w fun e w' => InstPost (· = oneI op dst an an fn true true ap al ac) e ∧ Below w.heap.size w w' := by
  rcases h0 with rfl | rfl | rfl | rfl | rfl | rfl | rfl | rfl | rfl | rfl | rfl | rfl | rfl | rfl
  all_goals
    go_enter Try.func8, Try.ntmps8
    go_wp2_with (first | (go_at_call 12; refine (copyOf_any _ _ _ _).mono ?_; rintro e w1 ⟨rfl, rfl⟩))
    all_goals (refine bodyPost_ret ?_ rfl ⟨InstPost.of _ rfl, ?_⟩; (focus (first | (simp [results, Try.results8, go_sem, oneI, turnB, one1, aliI, Inst.cells, *]; done) | (simp_all [results, Try.results8, go_sem, oneI, turnB, one1, aliI, Inst.cells]; done))); repeat (first | with_reducible exact Below.refl _ _ | with_reducible exact HB3.out | with_reducible refine Below.drew ?_ | with_reducible refine below_drewN ?_ _ | with_reducible refine Below.setCell ?_ ?_ _ | with_reducible refine Below.alloc ?_ ?_ _ | with_reducible exact HB2.out | with_reducible exact HB1.out | with_reducible refine Below.trans ?_ (Below.mono hb3 ?_) | with_reducible refine Below.trans ?_ (Below.mono hb5 ?_) | with_reducible refine Below.trans ?_ (Below.mono hb4 ?_) | omega | (simp; omega) | simp))
-- two registers
set_option maxRecDepth 100000 in
set_option maxHeartbeats 2000000 in
theorem form_tu (op dst an bn fn : Int) (ap : Option Addr) (al ac : Nat) (w : World) (h : 2 ≤ op ∧ op ≤ 15) (hn : an ≠ bn) :
    Calls Try.prog 8 #[.agg #[.int .i64 op, .int .i64 dst, .bool true, .int .i64 an, .bool true, .int .i64 bn, .int .i64 fn, .slice ap al ac]] w fun e w' => InstPost (· = oneI op dst an bn fn true true ap al ac) e ∧ Below w.heap.size w w' := by
  have h16 : (op == 16) = false := by rw [beq_eq_false_iff_ne]; omega
  have h17 : (op == 17) = false := by rw [beq_eq_false_iff_ne]; omega
  have hnb : (an != bn) = true := by simpa using hn
  have HT : Hid (oneI op dst an bn fn true true ap al ac = _) := oneI_tu h hn
  clear hn
  by_cases h3 : (op == 3) = true
  all_goals
    go_enter Try.func8, Try.ntmps8
    go_wp2
    all_goals (refine bodyPost_ret ?_ rfl ⟨InstPost.of _ rfl, ?_⟩; (focus (first | (simp [results, Try.results8, go_sem, HT.out, Inst.cells, *]; done) | (simp_all [results, Try.results8, go_sem, HT.out, Inst.cells]; done))); repeat (first | with_reducible exact Below.refl _ _ | with_reducible exact HB3.out | with_reducible refine Below.drew ?_ | with_reducible refine below_drewN ?_ _ | with_reducible refine Below.setCell ?_ ?_ _ | with_reducible refine Below.alloc ?_ ?_ _ | with_reducible exact HB2.out | with_reducible exact HB1.out | with_reducible refine Below.trans ?_ (Below.mono hb3 ?_) | with_reducible refine Below.trans ?_ (Below.mono hb5 ?_) | with_reducible refine Below.trans ?_ (Below.mono hb4 ?_) | omega | (simp; omega) | simp))

end Go.Proofs.Yteckkdmgkikeaaa
