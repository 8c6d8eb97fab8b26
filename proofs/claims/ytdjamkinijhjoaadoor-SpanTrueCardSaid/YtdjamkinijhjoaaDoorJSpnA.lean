/-
  Plain: what an instruction makes lies between what makS tells.
  The contracts of package span's small functions.
-/
import Derived.Test.YtdjamkinijhjoaaDoorJSpnR
import Derived.Test.YtdjamkinijhjoaaDoorRunQ
import Derived.WalkKit
import Derived.WalkSpells
import Derived.WalkLawsBesides
namespace Go.Proofs.YtdjamkinijhjoaaDoor
open Go.RowKit

def InS (s : Spn) (n : Int) : Prop := s.has = true ∧ s.lo ≤ n ∧ n ≤ s.hi
theorem InS.of {l h n : Int} (h1 : l ≤ n) (h2 : n ≤ h) : InS (ofS l h) n := ⟨rfl, h1, h2⟩
theorem InS.all {n : Int} (h : I64 n) : InS allS n := ⟨rfl, by unfold I64 at h; show minI ≤ n; unfold minI; omega, by unfold I64 at h; show n ≤ maxI; unfold maxI; omega⟩
theorem wrap_i64 (n : Int) : I64 (wrap64 n) := by unfold I64 wrap64; omega
theorem wrap_in {n : Int} (h : -9223372036854775808 ≤ n ∧ n ≤ 9223372036854775807) : wrap64 n = n := by unfold wrap64; omega
theorem InS.join {a b : Spn} {n : Int} (h : joinS a b = a) (hb : InS b n) : InS a n := by
 obtain ⟨h1, h2, h3⟩ := hb
 cases ha : a.has
 ·rw [joinS_left ha] at h
  rw [← h]
  exact ⟨h1, h2, h3⟩
 ·rw [joinS_has ha h1] at h
  rw [← h]
  exact ⟨rfl, by show min _ _ ≤ _; omega, by show _ ≤ max _ _; omega⟩
theorem InS.left {a b : Spn} {n : Int} (ha : InS a n) : InS (joinS a b) n := by
 obtain ⟨h1, h2, h3⟩ := ha
 cases hb : b.has
 ·rw [joinS_right h1 hb]; exact ⟨h1, h2, h3⟩
 ·rw [joinS_has h1 hb]; exact ⟨rfl, by show min _ _ ≤ _; omega, by show _ ≤ max _ _; omega⟩
theorem InS.right {a b : Spn} {n : Int} (hb : InS b n) : InS (joinS a b) n := by
 obtain ⟨h1, h2, h3⟩ := hb
 cases ha : a.has
 ·rw [joinS_left ha]; exact ⟨h1, h2, h3⟩
 ·rw [joinS_has ha h1]; exact ⟨rfl, by show min _ _ ≤ _; omega, by show _ ≤ max _ _; omega⟩
theorem phS_fold {l : Nat → Spn} {n : Int} : ∀ (src : List (Bool × Int)) (s : Spn), (InS s n ∨ ∃ v ∈ src, InS (vlS l v) n) → InS (src.foldl (fun s v => joinS s (vlS l v)) s) n
 | [], s, h => h.resolve_right (by simp)
 | v :: src, s, h => by
  refine phS_fold src _ ?_
  rcases h with h | ⟨x, hx, h⟩
  ·exact .inl h.left
  ·rcases List.mem_cons.1 hx with e | hx
   ·subst e; exact .inl h.right
   ·exact .inr ⟨x, hx, h⟩
theorem over_cov : ∀ (l : List Int) (s : Spn), overS l s = allS ∨ ((∀ p ∈ l, -9223372036854775808 ≤ p ∧ p ≤ 9223372036854775807) ∧ (∀ p ∈ l, InS (overS l s) p) ∧ ∀ n, InS s n → InS (overS l s) n)
 | [], s => .inr ⟨by simp, by simp, fun n h => h⟩
 | p :: l, s => by
  unfold overS
  by_cases hp : i64B p = true
  ·rw [if_pos hp]
   rcases over_cov l (joinS s (ofS p p)) with h | ⟨h1, h2, h3⟩
   ·exact .inl h
   ·have hp2 : -9223372036854775808 ≤ p ∧ p ≤ 9223372036854775807 := of_decide_eq_true hp
    refine .inr ⟨fun q hq => ?_, fun q hq => ?_, fun n hn => h3 n hn.left⟩
    ·rcases List.mem_cons.1 hq with e | hq
     ·subst e; exact hp2
     ·exact h1 q hq
    ·rcases List.mem_cons.1 hq with e | hq
     ·subst e; exact h3 q (InS.right (.of (Int.le_refl _) (Int.le_refl _)))
     ·exact h2 q hq
  ·rw [if_neg hp]
   exact .inl rfl
theorem over_in {l : List Int} {n p q : Int} (hp : p ∈ l) (hq : q ∈ l) (h1 : p ≤ n) (h2 : n ≤ q) : InS (overS l noS') (wrap64 n) := by
 rcases over_cov l noS' with h | ⟨f, g, _⟩
 ·rw [h]; exact .all (wrap_i64 n)
 ·have := f p hp
  have := f q hq
  rw [wrap_in (by omega)]
  obtain ⟨a1, a2, _⟩ := g p hp
  obtain ⟨_, _, b3⟩ := g q hq
  exact ⟨a1, by omega, by omega⟩
theorem mul_btw {p a q b : Int} (h1 : p ≤ a) (h2 : a ≤ q) : (p * b ≤ a * b ∧ a * b ≤ q * b) ∨ (q * b ≤ a * b ∧ a * b ≤ p * b) := by
 rcases Int.lt_or_le b 0 with h | h
 ·exact .inr ⟨Int.mul_le_mul_of_nonpos_right h2 (by omega), Int.mul_le_mul_of_nonpos_right h1 (by omega)⟩
 ·exact .inl ⟨Int.mul_le_mul_of_nonneg_right h1 h, Int.mul_le_mul_of_nonneg_right h2 h⟩
theorem mul_in {x1 x2 y1 y2 a b : Int} (h1 : x1 ≤ a) (h2 : a ≤ x2) (h3 : y1 ≤ b) (h4 : b ≤ y2) : (∃ p ∈ [x1 * y1, x1 * y2, x2 * y1, x2 * y2], p ≤ a * b) ∧ ∃ p ∈ [x1 * y1, x1 * y2, x2 * y1, x2 * y2], a * b ≤ p := by
 have m1 : (∃ p ∈ [x1 * y1, x1 * y2], p ≤ x1 * b) ∧ ∃ p ∈ [x1 * y1, x1 * y2], x1 * b ≤ p := by
  have h := mul_btw (b := x1) h3 h4
  rw [Int.mul_comm y1, Int.mul_comm b, Int.mul_comm y2] at h
  rcases h with ⟨a1, a2⟩ | ⟨a1, a2⟩
  ·exact ⟨⟨_, by simp, a1⟩, ⟨x1 * y2, by simp, a2⟩⟩
  ·exact ⟨⟨x1 * y2, by simp, a1⟩, ⟨x1 * y1, by simp, a2⟩⟩
 have m2 : (∃ p ∈ [x2 * y1, x2 * y2], p ≤ x2 * b) ∧ ∃ p ∈ [x2 * y1, x2 * y2], x2 * b ≤ p := by
  have h := mul_btw (b := x2) h3 h4
  rw [Int.mul_comm y1, Int.mul_comm b, Int.mul_comm y2] at h
  rcases h with ⟨a1, a2⟩ | ⟨a1, a2⟩
  ·exact ⟨⟨_, by simp, a1⟩, ⟨x2 * y2, by simp, a2⟩⟩
  ·exact ⟨⟨x2 * y2, by simp, a1⟩, ⟨x2 * y1, by simp, a2⟩⟩
 have i1 : ∀ p ∈ [x1 * y1, x1 * y2], p ∈ [x1 * y1, x1 * y2, x2 * y1, x2 * y2] := fun p hp => by simp at hp ⊢; rcases hp with h | h <;> simp [h]
 have i2 : ∀ p ∈ [x2 * y1, x2 * y2], p ∈ [x1 * y1, x1 * y2, x2 * y1, x2 * y2] := fun p hp => by simp at hp ⊢; rcases hp with h | h <;> simp [h]
 obtain ⟨⟨p1, q1, r1⟩, ⟨p2, q2, r2⟩⟩ := m1
 obtain ⟨⟨p3, q3, r3⟩, ⟨p4, q4, r4⟩⟩ := m2
 rcases mul_btw (b := b) h1 h2 with ⟨a1, a2⟩ | ⟨a1, a2⟩
 ·exact ⟨⟨p1, i1 _ q1, by omega⟩, ⟨p4, i2 _ q4, by omega⟩⟩
 ·exact ⟨⟨p3, i2 _ q3, by omega⟩, ⟨p2, i1 _ q2, by omega⟩⟩
theorem tdiv_self {a b : Int} (hb : 1 ≤ b) : (0 ≤ a → 0 ≤ a.tdiv b ∧ a.tdiv b ≤ a) ∧ (a < 0 → a ≤ a.tdiv b ∧ a.tdiv b ≤ 0) := by
 refine ⟨fun h => ?_, fun h => ?_⟩
 ·refine ⟨Int.tdiv_nonneg h (by omega), ?_⟩
  rw [Int.tdiv_eq_ediv_of_nonneg h]
  exact Int.ediv_le_self _ h
 ·have e : a.tdiv b = -((-a).tdiv b) := by rw [Int.neg_tdiv]; omega
  have h3 : 0 ≤ (-a).tdiv b := Int.tdiv_nonneg (by omega) (by omega)
  have h4 : (-a).tdiv b ≤ -a := by
   rw [Int.tdiv_eq_ediv_of_nonneg (by omega)]
   exact Int.ediv_le_self _ (by omega)
  omega
theorem tmod_self {a b : Int} (hb : 1 ≤ b) : (0 ≤ a → 0 ≤ a.tmod b ∧ a.tmod b ≤ a ∧ a.tmod b ≤ b - 1) ∧ (a < 0 → a ≤ a.tmod b ∧ a.tmod b ≤ 0 ∧ 1 - b ≤ a.tmod b) := by
 have pos : ∀ a : Int, 0 ≤ a → 0 ≤ a.tmod b ∧ a.tmod b ≤ a ∧ a.tmod b ≤ b - 1 := fun a h => by
  rw [Int.tmod_eq_emod_of_nonneg h]
  have h1 := Int.emod_nonneg a (show b ≠ 0 by omega)
  have h2 := Int.emod_lt_of_pos a (show 0 < b by omega)
  have h3 : a % b ≤ a := by
   have h4 := Int.mul_nonneg (show 0 ≤ b by omega) (Int.ediv_nonneg h (show 0 ≤ b by omega))
   rw [Int.emod_def]
   omega
  omega
 refine ⟨pos a, fun h => ?_⟩
 have h1 := pos (-a) (by omega)
 rw [Int.neg_tmod] at h1
 omega
theorem div_in {x y : Spn} {a b n : Int} (hx : SpOk x) (ha : InS x a) (hb : InS y b) (hn : n = wrap64 (a.tdiv b)) : InS (divS 5 x y) n := by
 obtain ⟨_, a1, a2⟩ := ha
 obtain ⟨_, b1, b2⟩ := hb
 have x1 := hx.lo
 have x2 := hx.hi
 unfold I64 at x1 x2
 unfold divS
 split
 ·rw [hn]; exact .all (wrap_i64 _)
 ·next h1 =>
  have hb1 : 1 ≤ b := by omega
  have hw : n = a.tdiv b := by
   rw [hn]
   have h := tdiv_self (a := a) hb1
   refine wrap_in ?_
   rcases Int.lt_or_le a 0 with g | g
   ·have := h.2 g; omega
   ·have := h.1 g; omega
  rw [hw]
  split
  ·next h2 =>
   have e : b = y.lo := by omega
   rw [e]
   exact .of (tdiv_mono (by omega) a1) (tdiv_mono (by omega) a2)
  ·rw [if_pos rfl]
   have h := tdiv_self (a := a) hb1
   rcases Int.lt_or_le a 0 with g | g
   ·have := h.2 g; exact .of (by omega) (by omega)
   ·have := h.1 g; exact .of (by omega) (by omega)
theorem rem_in {x y : Spn} {a b n : Int} (ha : InS x a) (hb : InS y b) (Ia : I64 a) (hn : n = a.tmod b) : InS (divS 6 x y) n := by
 obtain ⟨_, a1, a2⟩ := ha
 obtain ⟨_, b1, b2⟩ := hb
 unfold divS
 split
 ·rw [hn]
  have h : -9223372036854775808 ≤ a.tmod b ∧ a.tmod b ≤ 9223372036854775807 := by
   have h1 : (a.tmod b).natAbs ≤ a.natAbs := by rw [Int.natAbs_tmod]; exact Nat.mod_le _ _
   have h2 : 0 ≤ a → 0 ≤ a.tmod b := fun h => Int.tmod_nonneg b h
   have h3 : a ≤ 0 → a.tmod b ≤ 0 := fun h => by
    have := Int.tmod_nonneg b (show 0 ≤ -a by omega)
    rw [Int.neg_tmod] at this
    omega
   unfold I64 at Ia
   omega
  exact .all h
 ·next h1 =>
  have h := tmod_self (a := a) (b := b) (by omega)
  rw [if_neg (by omega), if_neg (by omega), hn]
  split
  ·have := h.1 (by omega); exact .of (by omega) (by omega)
  ·split
   ·rcases Int.lt_or_le a 0 with g | g
    ·have := h.2 g; exact .of (by omega) (by omega)
    ·have := h.1 g; exact .of (by omega) (by omega)
   ·rcases Int.lt_or_le a 0 with g | g
    ·have := h.2 g; exact .of (by omega) (by omega)
    ·have := h.1 g; exact .of (by omega) (by omega)
theorem ofI_nat {n : Int} (h : 0 ≤ n) (h2 : n ≤ 9223372036854775807) : (BitVec.ofInt 64 n).toNat = n.toNat := by
 rw [BitVec.toNat_ofInt]
 omega
theorem and_val (a b : Int) : bits .and .i64 a b = IntKind.i64.wrap (((BitVec.ofInt 64 a &&& BitVec.ofInt 64 b).toNat : Nat) : Int) := rfl
theorem or_val (a b : Int) : bits .or .i64 a b = IntKind.i64.wrap (((BitVec.ofInt 64 a ||| BitVec.ofInt 64 b).toNat : Nat) : Int) := rfl
theorem xor_val (a b : Int) : bits .xor .i64 a b = IntKind.i64.wrap (((BitVec.ofInt 64 a ^^^ BitVec.ofInt 64 b).toNat : Nat) : Int) := rfl
theorem and_comm' (a b : Int) : bits .and .i64 a b = bits .and .i64 b a := by rw [and_val, and_val, BitVec.and_comm]
theorem and_le {a b : Int} (h : 0 ≤ a) (h2 : a ≤ 9223372036854775807) : 0 ≤ bits .and .i64 a b ∧ bits .and .i64 a b ≤ a := by
 rw [and_val, BitVec.toNat_and, ofI_nat h h2, IntKind.wrap_i64]
 have h3 := Nat.and_le_left (n := a.toNat) (m := (BitVec.ofInt 64 b).toNat)
 omega
theorem len_lt {a M : Int} (_h : 0 ≤ a) (hM : a ≤ M) : a.toNat < 2 ^ lenBt M := by
 unfold lenBt
 split
 ·have : a.toNat = 0 := by omega
  rw [this]; simp
 ·have h2 : M.toNat < 2 ^ (M.toNat.log2 + 1) := Nat.lt_log2_self
  omega
theorem maskS_nat (M : Int) : maskS M = ((2 ^ lenBt M : Nat) : Int) - 1 := by unfold maskS; simp
theorem or_in {a b M : Int} (ha : 0 ≤ a) (hb : 0 ≤ b) (h1 : a ≤ M) (h2 : b ≤ M) (hM : M ≤ maxI) : a ≤ bits .or .i64 a b ∧ b ≤ bits .or .i64 a b ∧ bits .or .i64 a b ≤ maskS M := by
 have hm := maskS_bd (n := M) (by omega) hM
 unfold maxI at hM hm
 have h3 := Nat.or_lt_two_pow (len_lt ha h1) (len_lt hb h2)
 have h4 := Nat.left_le_or (n := a.toNat) (m := b.toNat)
 have h5 := Nat.right_le_or (n := a.toNat) (m := b.toNat)
 rw [or_val, BitVec.toNat_or, ofI_nat ha (by omega), ofI_nat hb (by omega), IntKind.wrap_i64]
 rw [maskS_nat] at hm ⊢
 omega
theorem xor_in {a b M : Int} (ha : 0 ≤ a) (hb : 0 ≤ b) (h1 : a ≤ M) (h2 : b ≤ M) (hM : M ≤ maxI) : 0 ≤ bits .xor .i64 a b ∧ bits .xor .i64 a b ≤ maskS M := by
 have hm := maskS_bd (n := M) (by omega) hM
 unfold maxI at hM hm
 have h3 := Nat.xor_lt_two_pow (len_lt ha h1) (len_lt hb h2)
 rw [xor_val, BitVec.toNat_xor, ofI_nat ha (by omega), ofI_nat hb (by omega), IntKind.wrap_i64]
 rw [maskS_nat] at hm ⊢
 omega
theorem log_in {op : Int} {x y : Spn} {a b n : Int} (hop : op = 7 ∨ op = 8 ∨ op = 9) (hx : SpOk x) (hy : SpOk y) (ha : InS x a) (hb : InS y b) (hn : n = (twoL op a b).1) : InS (logS op x y) n := by
 obtain ⟨_, a1, a2⟩ := ha
 obtain ⟨_, b1, b2⟩ := hb
 have x2 := hx.hi
 have y2 := hy.hi
 unfold I64 at x2 y2
 unfold logS
 rcases hop with rfl | rfl | rfl
 ·have hn : n = bits .and .i64 a b := by rw [hn]; simp [twoL]
  rw [if_pos rfl, hn]
  split
  ·have h1 := and_le (a := a) (b := b) (by omega) (by omega)
   have h2 := and_le (a := b) (b := a) (by omega) (by omega)
   rw [and_comm'] at h2
   exact .of (by omega) (by omega)
  ·split
   ·have h1 := and_le (a := a) (b := b) (by omega) (by omega)
    exact .of (by omega) (by omega)
   ·split
    ·have h2 := and_le (a := b) (b := a) (by omega) (by omega)
     rw [and_comm'] at h2
     exact .of (by omega) (by omega)
    ·exact .all (bits_in64 _ _ _)
 ·have hn : n = bits .or .i64 a b := by rw [hn]; simp [twoL]
  rw [if_neg (by decide), hn]
  split
  ·exact .all (bits_in64 _ _ _)
  ·rw [if_pos rfl]
   have h1 := or_in (a := a) (b := b) (M := max x.hi y.hi) (by omega) (by omega) (by omega) (by omega) (by unfold maxI; omega)
   exact .of (by omega) (by omega)
 ·have hn : n = bits .xor .i64 a b := by rw [hn]; simp [twoL]
  rw [if_neg (by decide), hn]
  split
  ·exact .all (bits_in64 _ _ _)
  ·rw [if_neg (by decide)]
   have h1 := xor_in (a := a) (b := b) (M := max x.hi y.hi) (by omega) (by omega) (by omega) (by omega) (by unfold maxI; omega)
   exact .of (by omega) (by omega)
theorem shr_in {a : Int} (k : Nat) : (0 ≤ a → 0 ≤ a / 2 ^ k ∧ a / 2 ^ k ≤ a) ∧ (a < 0 → a ≤ a / 2 ^ k ∧ a / 2 ^ k ≤ -1) := by
 have hp : (0 : Int) < 2 ^ k := Int.pow_pos (by omega)
 refine ⟨fun h => ⟨Int.ediv_nonneg h (by omega), Int.ediv_le_self _ h⟩, fun h => ⟨?_, ?_⟩⟩
 ·rw [Int.le_ediv_iff_mul_le hp]
  have := Int.mul_le_mul_of_nonpos_left (show a ≤ 0 by omega) (show (1 : Int) ≤ 2 ^ k by omega)
  omega
 ·have : a / 2 ^ k < 0 := (Int.ediv_lt_iff_lt_mul hp).2 (by omega)
  omega
theorem shf_in {op : Int} {x y : Spn} {a b n : Int} (hop : op = 10 ∨ op = 11) (ha : InS x a) (hb : InS y b) (hn : n = (twoL op a b).1) : InS (shfS op x y) n := by
 obtain ⟨_, a1, a2⟩ := ha
 obtain ⟨_, b1, b2⟩ := hb
 unfold shfS
 rcases hop with rfl | rfl
 ·rw [if_pos rfl]
  split
  ·next h =>
   have e1 : a = x.lo := by omega
   have e2 : b = y.lo := by omega
   rw [← e1, ← e2, hn]
   exact .of (Int.le_refl _) (Int.le_refl _)
  ·rw [hn]; exact .all (wrap_i64 _)
 ·rw [if_neg (by decide)]
  have hn : n = a / 2 ^ (b % 64).toNat := hn
  split
  ·next h =>
   have e2 : b = y.lo := by omega
   have hp : (0 : Int) < 2 ^ (b % 64).toNat := Int.pow_pos (by omega)
   rw [hn, ← e2]
   exact .of (Int.ediv_le_ediv hp a1) (Int.ediv_le_ediv hp a2)
  ·rw [hn]
   have h := shr_in (a := a) (b % 64).toNat
   rcases Int.lt_or_le a 0 with g | g
   ·have := h.2 g; exact .of (by omega) (by omega)
   ·have := h.1 g; exact .of (by omega) (by omega)
theorem sure_in {y n : Bool} {v : Int} (h0 : v = 0 ∨ v = 1) (hy : y = true → v = 1) (hn : n = true → v = 0) : InS (sureS y n) v := by
 unfold sureS
 split
 ·next h => rw [hy h]; exact .of (Int.le_refl _) (Int.le_refl _)
 ·split
  ·next h => rw [hn h]; exact .of (Int.le_refl _) (Int.le_refl _)
  ·exact .of (by omega) (by omega)
theorem tst_in {op : Int} {x y : Spn} {a b n : Int} (hop : 12 ≤ op ∧ op ≤ 15) (ha : InS x a) (hb : InS y b) (hn : n = (twoL op a b).1) : InS (tstS op x y) n := by
 obtain ⟨_, a1, a2⟩ := ha
 obtain ⟨_, b1, b2⟩ := hb
 have hops : op = 12 ∨ op = 13 ∨ op = 14 ∨ op = 15 := by omega
 unfold tstS sameSp apartB
 rcases hops with rfl | rfl | rfl | rfl
 ·have hn : n = if a = b then 1 else 0 := hn
  rw [if_pos rfl, hn]
  refine sure_in (by split <;> simp) (fun h => ?_) (fun h => ?_)
  ·have h := of_decide_eq_true h
   rw [if_pos (by omega)]
  ·have h := of_decide_eq_true h
   rw [if_neg (by omega)]
 ·have hn : n = if a = b then 0 else 1 := hn
  rw [if_neg (by decide), if_pos rfl, hn]
  refine sure_in (by split <;> simp) (fun h => ?_) (fun h => ?_)
  ·have h := of_decide_eq_true h
   rw [if_neg (by omega)]
  ·have h := of_decide_eq_true h
   rw [if_pos (by omega)]
 ·have hn : n = if a < b then 1 else 0 := hn
  rw [if_neg (by decide), if_neg (by decide), if_pos rfl, hn]
  refine sure_in (by split <;> simp) (fun h => ?_) (fun h => ?_)
  ·have h := of_decide_eq_true h
   rw [if_pos (by omega)]
  ·have h := of_decide_eq_true h
   rw [if_neg (by omega)]
 ·have hn : n = if a ≤ b then 1 else 0 := hn
  rw [if_neg (by decide), if_neg (by decide), if_neg (by decide), hn]
  refine sure_in (by split <;> simp) (fun h => ?_) (fun h => ?_)
  ·have h := of_decide_eq_true h
   rw [if_pos (by omega)]
  ·have h := of_decide_eq_true h
   rw [if_neg (by omega)]
theorem mak_in {op : Int} {x y : Spn} {a b n : Int} (hop : 1 ≤ op ∧ op ≤ 17) (hx : SpOk x) (hy : SpOk y) (ha : InS x a) (hb : 2 ≤ op ∧ op ≤ 15 → InS y b) (Ia : I64 a) (ht : twoL op a b = (n, true)) : InS (makS op x y) n := by
 have hn : n = (twoL op a b).1 := by rw [ht]
 unfold makS
 rw [if_neg (by omega), if_neg (fun h => by
  rcases h with h | h
  ·rw [ha.1] at h; cases h
  ·rw [(hb h.1).1] at h; cases h.2)]
 have hops : op = 1 ∨ op = 16 ∨ op = 17 ∨ (2 ≤ op ∧ op ≤ 15) := by omega
 rcases hops with rfl | rfl | rfl | ho
 ·rw [if_pos rfl, show n = a from hn]; exact ha
 ·rw [if_neg (by decide), if_neg (by decide), if_neg (by decide), if_neg (by decide), if_neg (by decide), if_neg (by decide), if_neg (by decide), if_pos rfl]
  have hn : n = wrap64 (-a) := hn
  have x2 := hx.hi
  have x1 := hx.lo
  have := ha.2
  unfold I64 at x1 x2
  split
  ·rw [hn]; exact .all (wrap_i64 _)
  ·next h =>
   unfold minI at h
   rw [hn, wrap_in (by omega)]
   exact .of (by omega) (by omega)
 ·rw [if_neg (by decide), if_neg (by decide), if_neg (by decide), if_neg (by decide), if_neg (by decide), if_neg (by decide), if_neg (by decide), if_neg (by decide), if_pos rfl]
  have hn : n = -1 - a := hn
  have := ha.2
  rw [hn]
  exact .of (by omega) (by omega)
 ·replace hb := hb ho
  obtain ⟨_, a1, a2⟩ := id ha
  obtain ⟨_, b1, b2⟩ := id hb
  have hops : op = 2 ∨ op = 3 ∨ op = 4 ∨ op = 5 ∨ op = 6 ∨ (op = 7 ∨ op = 8 ∨ op = 9) ∨ (op = 10 ∨ op = 11) ∨ (12 ≤ op ∧ op ≤ 15) := by omega
  rcases hops with rfl | rfl | rfl | rfl | rfl | h | h | h
  ·rw [if_neg (by decide), if_pos rfl, show n = wrap64 (a + b) from hn]
   exact over_in (p := x.lo + y.lo) (q := x.hi + y.hi) (by simp) (by simp) (by omega) (by omega)
  ·rw [if_neg (by decide), if_neg (by decide), if_pos rfl, show n = wrap64 (a - b) from hn]
   exact over_in (p := x.lo - y.hi) (q := x.hi - y.lo) (by simp) (by simp) (by omega) (by omega)
  ·rw [if_neg (by decide), if_neg (by decide), if_neg (by decide), if_pos rfl, show n = wrap64 (a * b) from hn]
   obtain ⟨⟨p, p1, p2⟩, ⟨q, q1, q2⟩⟩ := mul_in a1 a2 b1 b2
   exact over_in p1 q1 p2 q2
  ·rw [if_neg (by decide), if_neg (by decide), if_neg (by decide), if_neg (by decide), if_pos (.inl rfl)]
   have h0 : b ≠ 0 := fun e => by
    have h2 : (if b = 0 then ((0 : Int), false) else (wrap64 (a.tdiv b), true)) = (n, true) := ht
    rw [if_pos e] at h2; cases h2
   have h2 : (if b = 0 then ((0 : Int), false) else (wrap64 (a.tdiv b), true)) = (n, true) := ht
   rw [if_neg h0] at h2
   exact div_in hx ha hb (by cases h2; rfl)
  ·rw [if_neg (by decide), if_neg (by decide), if_neg (by decide), if_neg (by decide), if_pos (.inr rfl)]
   have h0 : b ≠ 0 := fun e => by
    have h2 : (if b = 0 then ((0 : Int), false) else (a.tmod b, true)) = (n, true) := ht
    rw [if_pos e] at h2; cases h2
   have h2 : (if b = 0 then ((0 : Int), false) else (a.tmod b, true)) = (n, true) := ht
   rw [if_neg h0] at h2
   exact rem_in ha hb Ia (by cases h2; rfl)
  ·rw [if_neg (by omega), if_neg (by omega), if_neg (by omega), if_neg (by omega), if_neg (by omega), if_pos h]
   exact log_in h hx hy ha hb hn
  ·rw [if_neg (by omega), if_neg (by omega), if_neg (by omega), if_neg (by omega), if_neg (by omega), if_neg (by omega), if_pos h]
   exact shf_in h ha hb hn
  ·rw [if_neg (by omega), if_neg (by omega), if_neg (by omega), if_neg (by omega), if_neg (by omega), if_neg (by omega), if_neg (by omega), if_neg (by omega), if_neg (by omega)]
   exact tst_in h ha hb hn
end Go.Proofs.YtdjamkinijhjoaaDoor
namespace Go.Proofs.YtdjamkinijhjoaaDoor
open Go.RowKit

def spC (s : Spn) : Array Value := #[.int .i64 s.lo, .int .i64 s.hi, .bool s.has]
theorem spanJust_any (n : Int) (w : World) :
  Calls Tryd.prog 50 #[.int .i64 n] w fun e w' => e = .returned (.agg #[.int .i64 n, .int .i64 n, .bool true]) ∧ w' = w.alloc (.cells #[.int .i64 n, .int .i64 n, .bool true] 74) := by
 go_enter Tryd.func50, Tryd.ntmps50
 go_wp2
 refine bodyPost_ret (v := .agg #[.int .i64 n, .int .i64 n, .bool true]) ?_ rfl ⟨rfl, ?_⟩
 ·simp [results, Tryd.results50, go_sem]
 ·rfl
theorem spanFrom_any (l h : Int) (w : World) :
  Calls Tryd.prog 85 #[.int .i64 l, .int .i64 h] w fun e w' => e = .returned (.agg #[.int .i64 l, .int .i64 h, .bool true]) ∧ w' = w.alloc (.cells #[.int .i64 l, .int .i64 h, .bool true] 74) := by
 go_enter Tryd.func85, Tryd.ntmps85
 go_wp2
 refine bodyPost_ret (v := .agg #[.int .i64 l, .int .i64 h, .bool true]) ?_ rfl ⟨rfl, ?_⟩
 ·simp [results, Tryd.results85, go_sem]
 ·rfl
theorem spanSum_any (a b : Int) (w : World) :
  Calls Tryd.prog 89 #[.int .i64 a, .int .i64 b] w fun e w' => e = .returned (.tuple #[.int .i64 (wrap64 (a + b)), .bool (decide (a < wrap64 (a + b)) == decide (0 < b))]) ∧ w = w' := by
 go_enter Tryd.func89, Tryd.ntmps89
 go_wp2
 refine bodyPost_ret (v := .tuple #[.int .i64 (wrap64 (a + b)), .bool (decide (a < wrap64 (a + b)) == decide (0 < b))]) ?_ rfl ⟨rfl, rfl⟩
 simp [results, Tryd.results89, go_sem]
theorem spanOne_any (s : Spn) (w : World) :
  Calls Tryd.prog 127 #[.agg (spC s)] w fun e w' => e = .returned (.bool (oneS s)) ∧ w' = w.alloc (.cells (spC s) 74) := by
 obtain ⟨l, h, b⟩ := s
 unfold spC oneS
 cases b
 ·go_enter Tryd.func127, Tryd.ntmps127
  go_wp2
  go_ret
  exact ⟨rfl, rfl⟩
 ·go_enter Tryd.func127, Tryd.ntmps127
  go_wp2
  go_ret
  exact ⟨by simp, rfl⟩
theorem spanSure_any (a b : Bool) (w : World) :
  Calls Tryd.prog 129 #[.bool a, .bool b] w fun e w' => e = .returned (.agg (spC (sureS a b))) ∧ w' = (w.alloc (.cells (spC (sureS a b)) 74)).alloc (.cells (spC (sureS a b)) 74) := by
 cases a <;> cases b
 all_goals
  go_enter Tryd.func129, Tryd.ntmps129
  go_wp2_with (first | (go_at_call 50; refine (spanJust_any _ _).mono ?_; rintro e w1 ⟨rfl, rfl⟩) | (go_at_call 85; refine (spanFrom_any _ _ _).mono ?_; rintro e w1 ⟨rfl, rfl⟩))
  refine bodyPost_ret ?_ rfl ⟨rfl, ?_⟩
  ·simp [results, Tryd.results129, go_sem, spC, sureS, ofS]
  ·rfl
def AllW (w : World) : Prop := w.cell? ⟨0, 0, none⟩ = some (.int .i64 (-9223372036854775808)) ∧ w.cell? ⟨0, 1, none⟩ = some (.int .i64 9223372036854775807) ∧ w.cell? ⟨0, 2, none⟩ = some (.bool true)
theorem AllW.below {w w' : World} (h : AllW w) (hb : Below w.heap.size w w') : AllW w' :=
 ⟨(hb.cell (p := ⟨0, 0, none⟩) (lt_of_cell h.1)).trans h.1, (hb.cell (p := ⟨0, 1, none⟩) (lt_of_cell h.1)).trans h.2.1, (hb.cell (p := ⟨0, 2, none⟩) (lt_of_cell h.1)).trans h.2.2⟩
theorem spanJoin_any (a b : Spn) (w : World) :
  Calls Tryd.prog 52 #[.agg (spC a), .agg (spC b)] w fun e w' => e = .returned (.agg (spC (joinS a b))) ∧ Below w.heap.size w w' := by
 obtain ⟨l, h, s⟩ := a
 obtain ⟨l2, h2, s2⟩ := b
 unfold joinS
 cases s <;> cases s2
 all_goals
  simp only [spC, Bool.true_eq_false, if_true, if_false]
  go_enter Tryd.func52, Tryd.ntmps52
  go_wp2_with (go_at_call 85; refine (spanFrom_any _ _ _).mono ?_; rintro e w1 ⟨rfl, rfl⟩)
  all_goals
   refine bodyPost_ret ?_ rfl ⟨rfl, ?_⟩
   ·first
     | (simp [results, Tryd.results52, go_sem, ofS]; done)
     | (simp [results, Tryd.results52, go_sem, ofS]; omega)
   ·repeat (first | (with_reducible first | exact bR _ _ | exact bH ‹_› | refine bD ?_ | refine bN ?_ _ | refine bS ?_ ?_ _ | refine bA ?_ ?_ _ | refine bT hb3 ?_ ?_ | refine bT hb5 ?_ ?_ | refine bT hb4 ?_ ?_) | omega | (simp; omega) | simp)
end Go.Proofs.YtdjamkinijhjoaaDoor
