/-
  Plain: what the form is, case by case.
-/
import Derived.Test.YtlalmbklhmpngaaDoorSoI
import Derived.WalkKit
import Derived.WalkSpells
import Derived.WalkLawsBesides
namespace Go.Proofs.YtlalmbklhmpngaaDoor
open Go.RowKit

theorem oneI_no {op dst an bn fn : Int} {ar br : Bool} {ap : Option Addr} {al ac : Nat} (h : op ≤ 1 ∨ 17 < op) : oneI op dst an bn fn ar br ap al ac = ⟨op, dst, ar, an, br, bn, fn, ap, al, ac⟩ := by
  unfold oneI; rw [if_pos h]
theorem oneI_ff {op dst an bn fn : Int} {ap : Option Addr} {al ac : Nat} (h : 2 ≤ op ∧ op ≤ 15) (ht : (twoL op an bn).2 = true) : oneI op dst an bn fn false false ap al ac = one1 1 dst false (twoL op an bn).1 := by
  unfold oneI; rw [if_neg (by omega), if_neg (by omega), if_pos ⟨rfl, rfl⟩, if_pos ht]
theorem oneI_ff0 {op dst an bn fn : Int} {ap : Option Addr} {al ac : Nat} (h : 2 ≤ op ∧ op ≤ 15) (ht : (twoL op an bn).2 = false) : oneI op dst an bn fn false false ap al ac = ⟨op, dst, false, an, false, bn, fn, ap, al, ac⟩ := by
  unfold oneI; rw [if_neg (by omega), if_neg (by omega), if_pos ⟨rfl, rfl⟩, if_neg (by rw [ht]; decide)]
theorem oneI_tf {op dst an bn fn : Int} {ap : Option Addr} {al ac : Nat} (h : 2 ≤ op ∧ op ≤ 15) (h3 : op ≠ 3) : oneI op dst an bn fn true false ap al ac = fixI op bn dst an fn true ap al ac := by
  unfold oneI; rw [if_neg (by omega), if_neg (by omega), if_neg (by simp), if_neg (by simp), if_neg (by simp; exact h3), if_pos rfl]
theorem oneI_ft1 {op dst an bn fn : Int} {ap : Option Addr} {al ac : Nat} (h : 2 ≤ op ∧ op ≤ 15) (ht : turnB op = true) : oneI op dst an bn fn false true ap al ac = fixI op an dst bn fn true ap al ac := by
  unfold oneI; rw [if_neg (by omega), if_neg (by omega), if_neg (by simp), if_pos ⟨rfl, ht⟩]
theorem oneI_ft0 {op dst an bn fn : Int} {ap : Option Addr} {al ac : Nat} (h : 2 ≤ op ∧ op ≤ 15) (ht : turnB op = false) : oneI op dst an bn fn false true ap al ac = ledI op an dst bn fn ap al ac := by
  unfold oneI; rw [if_neg (by omega), if_neg (by omega), if_neg (by simp), if_neg (by simp [ht]), if_neg (by simp), if_neg (by simp), if_pos rfl]
theorem oneI_tt {op dst an fn : Int} {ap : Option Addr} {al ac : Nat} (h : 2 ≤ op ∧ op ≤ 15) : oneI op dst an an fn true true ap al ac = aliI op dst an fn ap al ac := by
  unfold oneI; rw [if_neg (by omega), if_neg (by omega), if_neg (by simp), if_neg (by simp), if_neg (by simp), if_neg (by simp), if_neg (by simp), if_pos rfl]
theorem oneI_tu {op dst an bn fn : Int} {ap : Option Addr} {al ac : Nat} (h : 2 ≤ op ∧ op ≤ 15) (hn : an ≠ bn) : oneI op dst an bn fn true true ap al ac = ⟨op, dst, true, an, true, bn, fn, ap, al, ac⟩ := by
  unfold oneI; rw [if_neg (by omega), if_neg (by omega), if_neg (by simp), if_neg (by simp), if_neg (by simp), if_neg (by simp), if_neg (by simp), if_neg hn]

end Go.Proofs.YtlalmbklhmpngaaDoor
