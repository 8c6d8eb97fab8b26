/-
  The contract of the checker's ins, of every instruction.
-/
import Derived.Test.YteckkdmgkikeaaaDoorChkI
import Derived.WalkKit
import Derived.WalkSpells
import Derived.WalkLawsBesides
namespace Go.Proofs.YteckkdmgkikeaaaDoor
open Go.RowKit

theorem ins_any (g1 f1 b1 a1 p : Option Addr) (g2 g3 f2 f3 b2 b3 a2 a3 c : Nat) (nm : ByteArray) (params regs op dst an bn fn : Int) (ar br : Bool) (P : Nat → Int) (L : List (Bool × Int)) (w : World)
    (hf : f2 ≤ 9223372036854775807) (h1 : 0 ≤ regs) (h2 : regs ≤ 9223372036854775807)
    (hP : f2 = 0 ∨ ∃ fb fo, f1 = some ⟨fb, fo, none⟩ ∧ ∀ i, i < f2 → w.cell? ⟨fb, fo + i * 4 + 1, none⟩ = some (.int .i64 (P i))) (hl2 : L.length ≤ 9223372036854775807) (hL : SliceAt w 2 ValR p L) :
    Calls Tryd.prog 80 #[.agg #[.slice g1 g2 g3, .slice f1 f2 f3, .string nm, .int .i64 params, .int .i64 regs, .slice b1 b2 b3, .slice a1 a2 a3], .agg #[.int .i64 op, .int .i64 dst, .bool ar, .int .i64 an, .bool br, .int .i64 bn, .int .i64 fn, .slice p L.length c]] w fun e w' => e = .returned (.int .i64 (insE regs f2 P op dst an bn fn ar br L)) ∧ Below w.heap.size w w' := by
  by_cases h : 1 ≤ op ∧ op ≤ 22
  · cases hd : shD op
    · exact ins_d0 _ _ _ _ _ _ _ _ _ _ _ _ _ _ _ _ _ _ _ _ _ _ _ _ _ _ _ P L w h hf h1 h2 hP hl2 hL hd rfl rfl rfl
    · exact ins_d1 _ _ _ _ _ _ _ _ _ _ _ _ _ _ _ _ _ _ _ _ _ _ _ _ _ _ _ P L w h hf h1 h2 hP hl2 hL hd rfl rfl rfl
  · exact ins_kind _ _ _ _ _ _ _ _ _ _ _ _ _ _ _ _ _ _ _ _ _ _ _ _ P L w h
end Go.Proofs.YteckkdmgkikeaaaDoor
