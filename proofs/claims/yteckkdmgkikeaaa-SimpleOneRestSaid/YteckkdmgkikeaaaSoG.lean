/-
  The contracts of the reference's simpleBehind and SimpleForm.
-/
import Derived.Test.YteckkdmgkikeaaaSoE
import Derived.Test.YteckkdmgkikeaaaSoI
import Derived.WalkKit
import Derived.WalkSpells
import Derived.WalkLawsBesides
namespace Go.Proofs.Yteckkdmgkikeaaa
open Go.RowKit

set_option maxHeartbeats 4000000 in
theorem behind_any (op n dst an fn : Int) (ar : Bool) (ap : Option Addr) (al ac : Nat) (w : World) (h0 : op = 2 ∨ op = 3 ∨ op = 4 ∨ op = 5 ∨ op = 6 ∨ op = 7 ∨ op = 8 ∨ op = 9 ∨ op = 10 ∨ op = 11 ∨ op = 12 ∨ op = 13 ∨ op = 14 ∨ op = 15) :
    Calls Try.prog 13 #[.agg #[.int .i64 op, .int .i64 dst, .bool ar, .int .i64 an, .bool false, .int .i64 n, .int .i64 fn, .slice ap al ac]] w fun e w' => InstPost (· = fixI op n dst an fn ar ap al ac) e ∧ Below w.heap.size w w' := by
  have h63 := i64_and63 n
  rcases h0 with rfl | rfl | rfl | rfl | rfl | rfl | rfl | rfl | rfl | rfl | rfl | rfl | rfl | rfl
  all_goals
    go_enter Try.func13, Try.ntmps13
    go_wp2_with (first | (go_at_call 12; refine (copyOf_any _ _ _ _).mono ?_; rintro e w1 ⟨rfl, rfl⟩))
    all_goals (refine bodyPost_ret ?_ rfl ⟨InstPost.of _ rfl, ?_⟩; (focus (first | (simp [results, Try.results13, go_sem, fixI, one1, Inst.cells, *]; done) | (simp_all [results, Try.results13, go_sem, fixI, one1, Inst.cells]; done))); repeat (first | with_reducible exact Below.refl _ _ | with_reducible exact HB3.out | with_reducible refine Below.drew ?_ | with_reducible refine below_drewN ?_ _ | with_reducible refine Below.setCell ?_ ?_ _ | with_reducible refine Below.alloc ?_ ?_ _ | with_reducible exact HB2.out | with_reducible exact HB1.out | with_reducible refine Below.trans ?_ (Below.mono hb3 ?_) | with_reducible refine Below.trans ?_ (Below.mono hb5 ?_) | with_reducible refine Below.trans ?_ (Below.mono hb4 ?_) | omega | (simp; omega) | simp))

end Go.Proofs.Yteckkdmgkikeaaa
