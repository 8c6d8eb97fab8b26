/-
  Plain: the simplest form of a simplest form is itself.
-/
import Derived.Test.YteckkdmgkikeaaaSoM
namespace Go.Proofs.Yteckkdmgkikeaaa
open Go.RowKit

def again (x : Inst) : Inst := oneI x.op x.dst x.an x.bn x.fn x.ar x.br x.ap x.al x.ac
theorem again_copy (dst n : Int) (r : Bool) : again (one1 1 dst r n) = one1 1 dst r n := oneI_no (.inl (by simp [one1]))
theorem again_lone (op dst n : Int) (h : op = 16 ∨ op = 17) : again (one1 op dst true n) = one1 op dst true n := by
  rcases h with rfl | rfl <;> rfl
theorem again_fix (op n dst an fn : Int) (ap : Option Addr) (al ac : Nat) (h : 2 ≤ op ∧ op ≤ 15) (h3 : op ≠ 3) :
    again (fixI op n dst an fn true ap al ac) = fixI op n dst an fn true ap al ac := by
  by_cases c1 : n = 0 ∧ (op = 2 ∨ op = 8 ∨ op = 9) ∨ n = 1 ∧ (op = 4 ∨ op = 5) ∨ n = -1 ∧ op = 7 ∨ n % 64 = 0 ∧ (op = 10 ∨ op = 11)
  · rw [show fixI op n dst an fn true ap al ac = one1 1 dst true an from by unfold fixI; rw [if_pos c1]]; exact again_copy _ _ _
  by_cases c2 : n = 0 ∧ (op = 4 ∨ op = 7) ∨ (n = 1 ∨ n = -1) ∧ op = 6
  · rw [show fixI op n dst an fn true ap al ac = one1 1 dst false 0 from by unfold fixI; rw [if_neg c1, if_pos c2]]; exact again_copy _ _ _
  by_cases c3 : n = -1 ∧ op = 8
  · rw [show fixI op n dst an fn true ap al ac = one1 1 dst false (-1) from by unfold fixI; rw [if_neg c1, if_neg c2, if_pos c3]]; exact again_copy _ _ _
  by_cases c4 : n = -1 ∧ (op = 4 ∨ op = 5)
  · rw [show fixI op n dst an fn true ap al ac = one1 16 dst true an from by unfold fixI; rw [if_neg c1, if_neg c2, if_neg c3, if_pos c4]]; exact again_lone _ _ _ (.inl rfl)
  by_cases c5 : n = -1 ∧ op = 9
  · rw [show fixI op n dst an fn true ap al ac = one1 17 dst true an from by unfold fixI; rw [if_neg c1, if_neg c2, if_neg c3, if_neg c4, if_pos c5]]; exact again_lone _ _ _ (.inr rfl)
  have hx : fixI op n dst an fn true ap al ac = ⟨op, dst, true, an, false, n, fn, ap, al, ac⟩ := by unfold fixI; rw [if_neg c1, if_neg c2, if_neg c3, if_neg c4, if_neg c5]
  rw [hx]
  show oneI op dst an n fn true false ap al ac = _
  rw [oneI_tf h h3, hx]
theorem again_one (op dst an bn fn : Int) (ar br : Bool) (ap : Option Addr) (al ac : Nat) : again (oneI op dst an bn fn ar br ap al ac) = oneI op dst an bn fn ar br ap al ac := by
  by_cases h0 : op ≤ 1 ∨ 17 < op
  · rw [oneI_no h0]; exact oneI_no h0
  by_cases h1 : op = 16 ∨ op = 17
  · cases ar
    · rw [show oneI op dst an bn fn false br ap al ac = one1 1 dst false (twoL op an bn).1 from by rcases h1 with rfl | rfl <;> rfl]; exact again_copy _ _ _
    · have hx : oneI op dst an bn fn true br ap al ac = ⟨op, dst, true, an, br, bn, fn, ap, al, ac⟩ := by rcases h1 with rfl | rfl <;> rfl
      rw [hx]; exact hx
  have h2 : 2 ≤ op ∧ op ≤ 15 := by omega
  cases ar <;> cases br
  · cases ht : (twoL op an bn).2
    · rw [oneI_ff0 h2 ht]; exact oneI_ff0 h2 ht
    · rw [oneI_ff h2 ht]; exact again_copy _ _ _
  · cases ht : turnB op
    · have hx := oneI_ft0 (dst := dst) (an := an) (bn := bn) (fn := fn) (ap := ap) (al := al) (ac := ac) h2 ht
      by_cases c1 : op = 3 ∧ an = 0
      · rw [hx, show ledI op an dst bn fn ap al ac = one1 16 dst true bn from by unfold ledI; rw [if_pos c1]]; exact again_lone _ _ _ (.inl rfl)
      by_cases c2 : op = 10 ∧ an = 0 ∨ op = 11 ∧ (an = 0 ∨ an = -1)
      · rw [hx, show ledI op an dst bn fn ap al ac = one1 1 dst false an from by unfold ledI; rw [if_neg c1, if_pos c2]]; exact again_copy _ _ _
      have hy : oneI op dst an bn fn false true ap al ac = ⟨op, dst, false, an, true, bn, fn, ap, al, ac⟩ := by rw [hx]; unfold ledI; rw [if_neg c1, if_neg c2]
      rw [hy]; exact hy
    · rw [oneI_ft1 h2 ht]
      refine again_fix _ _ _ _ _ _ _ _ h2 ?_
      rintro rfl; revert ht; decide
  · by_cases h3 : op = 3
    · subst h3
      show again (fixI 2 (wrap64 (-bn)) dst an 0 true none 0 0) = fixI 2 (wrap64 (-bn)) dst an 0 true none 0 0
      exact again_fix _ _ _ _ _ _ _ _ (by omega) (by omega)
    · rw [oneI_tf h2 h3]; exact again_fix _ _ _ _ _ _ _ _ h2 h3
  · by_cases hn : an = bn
    · subst hn
      have hx := oneI_tt (dst := dst) (an := an) (fn := fn) (ap := ap) (al := al) (ac := ac) h2
      by_cases c1 : op = 3 ∨ op = 9 ∨ op = 13 ∨ op = 14
      · rw [hx, show aliI op dst an fn ap al ac = one1 1 dst false 0 from by unfold aliI; rw [if_pos c1]]; exact again_copy _ _ _
      by_cases c2 : op = 12 ∨ op = 15
      · rw [hx, show aliI op dst an fn ap al ac = one1 1 dst false 1 from by unfold aliI; rw [if_neg c1, if_pos c2]]; exact again_copy _ _ _
      by_cases c3 : op = 7 ∨ op = 8
      · rw [hx, show aliI op dst an fn ap al ac = one1 1 dst true an from by unfold aliI; rw [if_neg c1, if_neg c2, if_pos c3]]; exact again_copy _ _ _
      have hy : oneI op dst an an fn true true ap al ac = ⟨op, dst, true, an, true, an, fn, ap, al, ac⟩ := by rw [hx]; unfold aliI; rw [if_neg c1, if_neg c2, if_neg c3]
      rw [hy]; exact hy
    · rw [oneI_tu h2 hn]; exact oneI_tu h2 hn

/-- the kind stays one of the kinds -/
theorem oneI_op (op dst an bn fn : Int) (ar br : Bool) (ap : Option Addr) (al ac : Nat) (h : 1 ≤ op ∧ op ≤ 22) : 1 ≤ (oneI op dst an bn fn ar br ap al ac).op ∧ (oneI op dst an bn fn ar br ap al ac).op ≤ 22 := by
  have ite_op : ∀ {c : Prop} [Decidable c] {x y : Inst}, (1 ≤ x.op ∧ x.op ≤ 22) → (1 ≤ y.op ∧ y.op ≤ 22) → 1 ≤ (if c then x else y).op ∧ (if c then x else y).op ≤ 22 := by
    intro c _ x y hx hy
    by_cases hc : c
    · rw [if_pos hc]; exact hx
    · rw [if_neg hc]; exact hy
  unfold oneI fixI ledI aliI one1
  repeat' (refine ite_op ?_ ?_)
  all_goals first | exact h | (constructor <;> simp)

theorem I64.wrap (n : Int) : I64 (wrap64 n) := by
  unfold I64 wrap64; omega
theorem I64.ofBits (op : BinOp) (a b : Int) : I64 (bits op .i64 a b) := by
  unfold bits
  rw [IntWalk.i64_left]
  exact I64.wrap _
theorem tmod_i64 {a b : Int} (ha : I64 a) : I64 (a.tmod b) := by
  unfold I64 at *
  have h1 : (a.tmod b).natAbs ≤ a.natAbs := by rw [Int.natAbs_tmod]; exact Nat.mod_le _ _
  by_cases h : 0 ≤ a
  · have h2 := Int.tmod_nonneg b h
    omega
  · have h2 := Int.tmod_nonneg b (a := -a) (by omega)
    rw [Int.neg_tmod] at h2
    omega
theorem shr_i64 {a : Int} (k : Nat) (ha : I64 a) : I64 (a / 2 ^ k) := by
  unfold I64 at *
  have hp : (0 : Int) < 2 ^ k := Int.pow_pos (by decide)
  constructor
  · by_cases h : a < 0
    · have : a ≤ a / 2 ^ k := by
        rw [Int.le_ediv_iff_mul_le hp]
        have : a * 2 ^ k ≤ a * 1 := Int.mul_le_mul_of_nonpos_left (by omega) (by omega)
        omega
      omega
    · have : 0 ≤ a / 2 ^ k := Int.ediv_nonneg (by omega) (by omega)
      omega
  · by_cases h : a < 0
    · have : a / 2 ^ k < 0 := Int.ediv_neg_of_neg_of_pos h hp
      omega
    · have : a / 2 ^ k ≤ a := Int.ediv_le_self _ (by omega)
      omega
theorem twoL_i64 {op a b : Int} (ha : I64 a) : I64 (twoL op a b).1 := by
  have ite_i : ∀ {c : Prop} [Decidable c] {x y : Int × Bool}, I64 x.1 → I64 y.1 → I64 (if c then x else y).1 := by
    intro c _ x y hx hy
    by_cases hc : c
    · rw [if_pos hc]; exact hx
    · rw [if_neg hc]; exact hy
  have small : ∀ n : Int, -1 ≤ n → n ≤ 1 → I64 n := fun n h1 h2 => by unfold I64; omega
  unfold twoL
  repeat' (refine ite_i ?_ ?_)
  all_goals dsimp only
  all_goals first
    | with_reducible exact ha
    | with_reducible exact I64.wrap _
    | with_reducible exact I64.ofBits _ _ _
    | with_reducible exact tmod_i64 ha
    | with_reducible exact shr_i64 _ ha
    | (refine small _ ?_ ?_ <;> (try split) <;> omega)
    | (unfold I64 at *; omega)
theorem oneI_an' {op dst an bn fn : Int} {ar br : Bool} {ap : Option Addr} {al ac : Nat} (ha : I64 an) (hb : I64 bn) : I64 (oneI op dst an bn fn ar br ap al ac).an := by
  have ite_i : ∀ {c : Prop} [Decidable c] {x y : Inst}, I64 x.an → I64 y.an → I64 (if c then x else y).an := by
    intro c _ x y hx hy
    by_cases hc : c
    · rw [if_pos hc]; exact hx
    · rw [if_neg hc]; exact hy
  have small : ∀ n : Int, -1 ≤ n → n ≤ 1 → I64 n := fun n h1 h2 => by unfold I64; omega
  unfold oneI fixI ledI aliI one1
  repeat' (refine ite_i ?_ ?_)
  all_goals dsimp only
  all_goals first
    | with_reducible exact ha
    | with_reducible exact hb
    | with_reducible exact twoL_i64 ha
    | (refine small _ ?_ ?_ <;> omega)

end Go.Proofs.Yteckkdmgkikeaaa
