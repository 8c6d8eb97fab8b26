/-
  The contract of the reference's SimpleForm.
-/
import Derived.Test.YteckkdmgkikeaaaSoH0
import Derived.Test.YteckkdmgkikeaaaSoH1
import Derived.WalkKit
import Derived.WalkSpells
import Derived.WalkLawsBesides
namespace Go.Proofs.Yteckkdmgkikeaaa
open Go.RowKit

theorem form_any (op dst an bn fn : Int) (ar br : Bool) (ap : Option Addr) (al ac : Nat) (w : World) (ha : I64 an) :
    Calls Try.prog 8 #[.agg #[.int .i64 op, .int .i64 dst, .bool ar, .int .i64 an, .bool br, .int .i64 bn, .int .i64 fn, .slice ap al ac]] w fun e w' => InstPost (· = oneI op dst an bn fn ar br ap al ac) e ∧ Below w.heap.size w w' := by
  by_cases h0 : op ≤ 1 ∨ 17 < op
  · exact form_no op dst an bn fn ar br ap al ac w h0
  by_cases h1 : op = 16 ∨ op = 17
  · exact form_lone op dst an bn fn ar br ap al ac w h1 ha
  have h2 : 2 ≤ op ∧ op ≤ 15 := by omega
  cases ar <;> cases br
  · exact form_ff op dst an bn fn ap al ac w h2 ha
  · by_cases ht : op = 2 ∨ op = 4 ∨ op = 7 ∨ op = 8 ∨ op = 9 ∨ op = 12 ∨ op = 13
    · exact form_ft1 op dst an bn fn ap al ac w ht
    · exact form_ft0 op dst an bn fn ap al ac w (by omega)
  · by_cases h3 : op = 3
    · subst h3; exact form_sub dst an bn fn ap al ac w
    · exact form_tf op dst an bn fn ap al ac w h2 h3
  · by_cases hn : an = bn
    · subst hn; exact form_tt op dst an fn ap al ac w (by omega)
    · exact form_tu op dst an bn fn ap al ac w h2 hn

end Go.Proofs.Yteckkdmgkikeaaa
