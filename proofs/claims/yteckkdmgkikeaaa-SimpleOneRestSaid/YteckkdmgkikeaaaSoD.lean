/-
  The contracts of simple.led and simple.alike.
-/
import Derived.Test.YteckkdmgkikeaaaSoC0
import Derived.Test.YteckkdmgkikeaaaSoC1
import Derived.Test.YteckkdmgkikeaaaSoC2
import Derived.Test.YteckkdmgkikeaaaSoC3
import Derived.Deep.RegionWith
import Derived.WalkKit
import Derived.WalkSpells
import Derived.WalkLawsBesides
namespace Go.Proofs.Yteckkdmgkikeaaa
open Go.RowKit

theorem fixed_any (op n dst an fn : Int) (ar : Bool) (ap : Option Addr) (al ac : Nat) (w : World) (h : 2 ≤ op ∧ op ≤ 15) :
    Calls Try.prog 20 #[.agg #[.int .i64 op, .int .i64 dst, .bool ar, .int .i64 an, .bool false, .int .i64 n, .int .i64 fn, .slice ap al ac]] w fun e w' => InstPost (· = fixI op n dst an fn ar ap al ac) e ∧ Below w.heap.size w w' := by
  by_cases n0 : n = 0
  · subst n0; exact fixed_0 op dst an fn ar ap al ac w (by omega)
  by_cases n1 : n = 1
  · subst n1; exact fixed_1 op dst an fn ar ap al ac w (by omega)
  by_cases nm : n = -1
  · subst nm; exact fixed_m op dst an fn ar ap al ac w (by omega)
  have h1 : (n == 0) = false := by simpa using n0
  have h2 : (n == 1) = false := by simpa using n1
  have h3 : (n == -1) = false := by simpa using nm
  by_cases hs : op = 10 ∨ op = 11
  · by_cases hn : n % 64 = 0
    · exact fixed_s0 op n dst an fn ar ap al ac w hs h1 h2 h3 hn
    · exact fixed_s1 op n dst an fn ar ap al ac w hs h1 h2 h3 (by simpa using hn)
  · exact fixed_e op n dst an fn ar ap al ac w (by omega) h1 h2 h3

set_option maxHeartbeats 4000000 in
theorem led_any (op n dst bn fn : Int) (ap : Option Addr) (al ac : Nat) (w : World) :
    Calls Try.prog 21 #[.agg #[.int .i64 op, .int .i64 dst, .bool false, .int .i64 n, .bool true, .int .i64 bn, .int .i64 fn, .slice ap al ac]] w fun e w' => InstPost (· = ledI op n dst bn fn ap al ac) e ∧ Below w.heap.size w w' := by
  go_enter Try.func21, Try.ntmps21
  go_wp2_with (first | (go_at_call 17; refine (made1_any _ _ ?_ ?_ _ _ _ _ ?_ ?_).mono ?_; rotate_left 2; (focus (go_simp; rfl)); (focus (go_simp; rfl)); rintro e w2 ⟨rfl, rfl⟩) | (go_at_call 18; refine (num_any _ _).mono ?_; rintro e w1 ⟨rfl, rfl⟩))
  all_goals (refine bodyPost_ret ?_ rfl ⟨InstPost.of _ rfl, ?_⟩; (focus (first | (simp [results, Try.results21, go_sem, ledI, one1, Inst.cells, *]; done) | (simp_all [results, Try.results21, go_sem, ledI, one1, Inst.cells]; done))); repeat (first | with_reducible exact Below.refl _ _ | with_reducible exact HB3.out | with_reducible refine Below.drew ?_ | with_reducible refine below_drewN ?_ _ | with_reducible refine Below.setCell ?_ ?_ _ | with_reducible refine Below.alloc ?_ ?_ _ | with_reducible exact HB2.out | with_reducible exact HB1.out | with_reducible refine Below.trans ?_ (Below.mono hb3 ?_) | with_reducible refine Below.trans ?_ (Below.mono hb5 ?_) | with_reducible refine Below.trans ?_ (Below.mono hb4 ?_) | omega | (simp; omega) | simp))

set_option maxHeartbeats 4000000 in
theorem ali_any (op n dst fn : Int) (ap : Option Addr) (al ac : Nat) (w : World) (h0 : op = 2 ∨ op = 3 ∨ op = 4 ∨ op = 5 ∨ op = 6 ∨ op = 7 ∨ op = 8 ∨ op = 9 ∨ op = 10 ∨ op = 11 ∨ op = 12 ∨ op = 13 ∨ op = 14 ∨ op = 15) :
    Calls Try.prog 22 #[.agg #[.int .i64 op, .int .i64 dst, .bool true, .int .i64 n, .bool true, .int .i64 n, .int .i64 fn, .slice ap al ac]] w fun e w' => InstPost (· = aliI op dst n fn ap al ac) e ∧ Below w.heap.size w w' := by
  rcases h0 with rfl | rfl | rfl | rfl | rfl | rfl | rfl | rfl | rfl | rfl | rfl | rfl | rfl | rfl
  all_goals
    go_enter Try.func22, Try.ntmps22
    go_wp2_with (first | (go_at_call 17; refine (made1_any _ _ ?_ ?_ _ _ _ _ ?_ ?_).mono ?_; rotate_left 2; (focus (go_simp; rfl)); (focus (go_simp; rfl)); rintro e w2 ⟨rfl, rfl⟩) | (go_at_call 18; refine (num_any _ _).mono ?_; rintro e w1 ⟨rfl, rfl⟩))
    try (go_region_with (first | (go_at_call 18; refine (num_any _ _).mono ?_; rintro e w1 ⟨rfl, rfl⟩) | (go_at_call 17; refine (made1_any _ _ ?_ ?_ _ _ _ _ ?_ ?_).mono ?_; rotate_left 2; (focus (go_simp; rfl)); (focus (go_simp; rfl)); rintro e w2 ⟨rfl, rfl⟩)))
    all_goals go_wp2
    all_goals (refine bodyPost_ret ?_ rfl ⟨InstPost.of _ rfl, ?_⟩; (focus (simp [results, Try.results22, go_sem, aliI, one1, Inst.cells])); repeat (first | with_reducible exact Below.refl _ _ | with_reducible exact HB3.out | with_reducible refine Below.drew ?_ | with_reducible refine below_drewN ?_ _ | with_reducible refine Below.setCell ?_ ?_ _ | with_reducible refine Below.alloc ?_ ?_ _ | with_reducible exact HB2.out | with_reducible exact HB1.out | with_reducible refine Below.trans ?_ (Below.mono hb3 ?_) | with_reducible refine Below.trans ?_ (Below.mono hb5 ?_) | with_reducible refine Below.trans ?_ (Below.mono hb4 ?_) | omega | (simp; omega) | simp))
end Go.Proofs.Yteckkdmgkikeaaa
