/-
  The contracts of simple.one and simple.One.
-/
import Derived.Test.YteckkdmgkikeaaaSoF0
import Derived.Test.YteckkdmgkikeaaaSoF1
import Derived.WalkKit
import Derived.WalkSpells
import Derived.WalkLawsBesides
namespace Go.Proofs.Yteckkdmgkikeaaa
open Go.RowKit

theorem one_any (op dst an bn fn : Int) (ar br : Bool) (ap : Option Addr) (al ac : Nat) (w : World) (ha : I64 an) :
    Calls Try.prog 9 #[.agg #[.int .i64 op, .int .i64 dst, .bool ar, .int .i64 an, .bool br, .int .i64 bn, .int .i64 fn, .slice ap al ac]] w fun e w' => InstPost (· = oneI op dst an bn fn ar br ap al ac) e ∧ Below w.heap.size w w' := by
  by_cases h0 : op ≤ 1 ∨ 17 < op
  · exact one_no op dst an bn fn ar br ap al ac w h0
  by_cases h1 : op = 16 ∨ op = 17
  · cases ar
    · exact one_lone_n op dst an bn fn br ap al ac w h1 ha
    · exact one_lone_r op dst an bn fn br ap al ac w h1
  have h2 : 2 ≤ op ∧ op ≤ 15 := by omega
  cases ar <;> cases br
  · cases ht : (twoL op an bn).2
    · exact one_ff0 op dst an bn fn ap al ac w h2 ha ht
    · exact one_ff op dst an bn fn ap al ac w h2 ha ht
  · cases ht : turnB op
    · exact one_ft0 op dst an bn fn ap al ac w h2 ht
    · refine one_ft1 op dst an bn fn ap al ac w h2 ht ?_
      rw [beq_eq_false_iff_ne]; rintro rfl; revert ht; decide
  · by_cases h3 : op = 3
    · subst h3; exact one_sub dst an bn fn ap al ac w
    · exact one_tf op dst an bn fn ap al ac w h2 (by simpa using h3)
  · by_cases hn : an = bn
    · subst hn; exact one_tt op dst an fn ap al ac w h2
    · exact one_tu op dst an bn fn ap al ac w h2 (by simpa using hn)

end Go.Proofs.Yteckkdmgkikeaaa
