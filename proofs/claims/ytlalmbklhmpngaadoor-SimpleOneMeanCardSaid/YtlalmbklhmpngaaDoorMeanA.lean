/-
  Plain: the simplest form of an instruction comes to what the instruction comes to.
-/
import Derived.Test.YtlalmbklhmpngaaDoorSoI
import Derived.Test.YtlalmbklhmpngaaDoorBRunP
namespace Go.Proofs.YtlalmbklhmpngaaDoor
open Go.RowKit

/-- what an instruction that reckons comes to -/
def meanI (rs : List Int) (x : Inst) : Int × Bool := twoL x.op (valL rs x.ar x.an) (valL rs x.br x.bn)

theorem wrap_id {a : Int} (h : I64 a) : wrap64 a = a := by unfold I64 at h; unfold wrap64; omega
theorem ofInt_back {a : Int} (h : I64 a) : IntKind.i64.wrap ((BitVec.ofInt 64 a).toNat : Nat) = a := by
  rw [BitVec.toNat_ofInt, IntKind.wrap_i64]
  unfold I64 at h
  omega
theorem and_m1 {a : Int} (h : I64 a) : bits .and .i64 a (-1) = a := by
  show IntKind.i64.wrap ((BitVec.ofInt 64 a &&& BitVec.ofInt 64 (-1)).toNat : Nat) = a
  have e : BitVec.ofInt 64 (-1) = BitVec.allOnes 64 := by decide
  rw [e, BitVec.and_allOnes]
  exact ofInt_back h
theorem and_0 (a : Int) : bits .and .i64 a 0 = 0 := by
  show IntKind.i64.wrap ((BitVec.ofInt 64 a &&& BitVec.ofInt 64 0).toNat : Nat) = 0
  have e : BitVec.ofInt 64 0 = 0#64 := by decide
  rw [e, BitVec.and_zero]
  decide
theorem or_0 {a : Int} (h : I64 a) : bits .or .i64 a 0 = a := by
  show IntKind.i64.wrap ((BitVec.ofInt 64 a ||| BitVec.ofInt 64 0).toNat : Nat) = a
  have e : BitVec.ofInt 64 0 = 0#64 := by decide
  rw [e, BitVec.or_zero]
  exact ofInt_back h
theorem or_m1 (a : Int) : bits .or .i64 a (-1) = -1 := by
  show IntKind.i64.wrap ((BitVec.ofInt 64 a ||| BitVec.ofInt 64 (-1)).toNat : Nat) = -1
  have e : BitVec.ofInt 64 (-1) = BitVec.allOnes 64 := by decide
  rw [e, BitVec.or_allOnes]
  decide
theorem xor_0 {a : Int} (h : I64 a) : bits .xor .i64 a 0 = a := by
  show IntKind.i64.wrap ((BitVec.ofInt 64 a ^^^ BitVec.ofInt 64 0).toNat : Nat) = a
  have e : BitVec.ofInt 64 0 = 0#64 := by decide
  rw [e, BitVec.xor_zero]
  exact ofInt_back h
theorem xor_m1 {a : Int} (h : I64 a) : bits .xor .i64 a (-1) = -1 - a := by
  show IntKind.i64.wrap ((BitVec.ofInt 64 a ^^^ BitVec.ofInt 64 (-1)).toNat : Nat) = -1 - a
  have e : BitVec.ofInt 64 (-1) = BitVec.allOnes 64 := by decide
  rw [e, BitVec.xor_allOnes, BitVec.toNat_not, BitVec.toNat_ofInt, IntKind.wrap_i64]
  unfold I64 at h
  omega
theorem and_self {a : Int} (h : I64 a) : bits .and .i64 a a = a := by
  show IntKind.i64.wrap ((BitVec.ofInt 64 a &&& BitVec.ofInt 64 a).toNat : Nat) = a
  rw [BitVec.and_self]
  exact ofInt_back h
theorem or_self {a : Int} (h : I64 a) : bits .or .i64 a a = a := by
  show IntKind.i64.wrap ((BitVec.ofInt 64 a ||| BitVec.ofInt 64 a).toNat : Nat) = a
  rw [BitVec.or_self]
  exact ofInt_back h
theorem xor_self (a : Int) : bits .xor .i64 a a = 0 := by
  show IntKind.i64.wrap ((BitVec.ofInt 64 a ^^^ BitVec.ofInt 64 a).toNat : Nat) = 0
  rw [BitVec.xor_self]
  decide
theorem bits_comm_and (a b : Int) : bits .and .i64 a b = bits .and .i64 b a := by
  show IntKind.i64.wrap ((BitVec.ofInt 64 a &&& BitVec.ofInt 64 b).toNat : Nat) = IntKind.i64.wrap ((BitVec.ofInt 64 b &&& BitVec.ofInt 64 a).toNat : Nat)
  rw [BitVec.and_comm]
theorem bits_comm_or (a b : Int) : bits .or .i64 a b = bits .or .i64 b a := by
  show IntKind.i64.wrap ((BitVec.ofInt 64 a ||| BitVec.ofInt 64 b).toNat : Nat) = IntKind.i64.wrap ((BitVec.ofInt 64 b ||| BitVec.ofInt 64 a).toNat : Nat)
  rw [BitVec.or_comm]
theorem bits_comm_xor (a b : Int) : bits .xor .i64 a b = bits .xor .i64 b a := by
  show IntKind.i64.wrap ((BitVec.ofInt 64 a ^^^ BitVec.ofInt 64 b).toNat : Nat) = IntKind.i64.wrap ((BitVec.ofInt 64 b ^^^ BitVec.ofInt 64 a).toNat : Nat)
  rw [BitVec.xor_comm]

theorem twoL_1 (a b : Int) : twoL 1 a b = (a, true) := rfl
theorem twoL_2 (a b : Int) : twoL 2 a b = (wrap64 (a + b), true) := rfl
theorem twoL_3 (a b : Int) : twoL 3 a b = (wrap64 (a - b), true) := rfl
theorem twoL_4 (a b : Int) : twoL 4 a b = (wrap64 (a * b), true) := rfl
theorem twoL_5 (a b : Int) : twoL 5 a b = if b = 0 then (0, false) else (wrap64 (a.tdiv b), true) := rfl
theorem twoL_6 (a b : Int) : twoL 6 a b = if b = 0 then (0, false) else (a.tmod b, true) := rfl
theorem twoL_7 (a b : Int) : twoL 7 a b = (bits .and .i64 a b, true) := rfl
theorem twoL_8 (a b : Int) : twoL 8 a b = (bits .or .i64 a b, true) := rfl
theorem twoL_9 (a b : Int) : twoL 9 a b = (bits .xor .i64 a b, true) := rfl
theorem twoL_10 (a b : Int) : twoL 10 a b = (wrap64 (a * 2 ^ (b % 64).toNat), true) := rfl
theorem twoL_11 (a b : Int) : twoL 11 a b = (a / 2 ^ (b % 64).toNat, true) := rfl
theorem twoL_12 (a b : Int) : twoL 12 a b = (if a = b then 1 else 0, true) := rfl
theorem twoL_13 (a b : Int) : twoL 13 a b = (if a = b then 0 else 1, true) := rfl
theorem twoL_14 (a b : Int) : twoL 14 a b = (if a < b then 1 else 0, true) := rfl
theorem twoL_15 (a b : Int) : twoL 15 a b = (if a ≤ b then 1 else 0, true) := rfl
theorem twoL_16 (a b : Int) : twoL 16 a b = (wrap64 (-a), true) := rfl
theorem twoL_17 (a b : Int) : twoL 17 a b = (-1 - a, true) := rfl
theorem neg1_div (k : Nat) : (-1 : Int) / 2 ^ k = -1 := by
  have h : (0 : Int) < 2 ^ k := Int.pow_pos (by omega)
  have e := Int.mul_ediv_add_emod (-1) (2 ^ k)
  have r0 := Int.emod_nonneg (-1) (show (2 : Int) ^ k ≠ 0 by omega)
  have r1 := Int.emod_lt_of_pos (-1) h
  generalize (2 : Int) ^ k = m at *
  generalize (-1 : Int) / m = q at *
  rcases Int.lt_trichotomy q (-1) with g | g | g
  · have : m * (q + 1) ≤ m * (-1) := Int.mul_le_mul_of_nonneg_left (by omega) (by omega)
    rw [Int.mul_add] at this
    omega
  · exact g
  · have : m * 0 ≤ m * q := Int.mul_le_mul_of_nonneg_left (by omega) (by omega)
    omega

theorem mean_fix {rs : List Int} (hr : ∀ r n, I64 n → I64 (valL rs r n)) {op n dst an fn : Int} {ar : Bool} {ap : Option Addr} {al ac : Nat} (h : 2 ≤ op ∧ op ≤ 15) (ha : I64 an) :
    meanI rs (fixI op n dst an fn ar ap al ac) = twoL op (valL rs ar an) n := by
  have hA := hr ar an ha
  unfold fixI
  split
  · rename_i hc
    show twoL 1 (valL rs ar an) _ = _
    rw [twoL_1]
    rcases hc with ⟨rfl, rfl | rfl | rfl⟩ | ⟨rfl, rfl | rfl⟩ | ⟨rfl, rfl⟩ | ⟨hn, rfl | rfl⟩
    · rw [twoL_2, Int.add_zero, wrap_id hA]
    · rw [twoL_8, or_0 hA]
    · rw [twoL_9, xor_0 hA]
    · rw [twoL_4, Int.mul_one, wrap_id hA]
    · rw [twoL_5, if_neg (by omega), Int.tdiv_one, wrap_id hA]
    · rw [twoL_7, and_m1 hA]
    · rw [twoL_10, hn]; simp [wrap_id hA]
    · rw [twoL_11, hn]; simp
  split
  · rename_i _ hc
    show twoL 1 0 _ = _
    rw [twoL_1]
    rcases hc with ⟨rfl, rfl | rfl⟩ | ⟨rfl | rfl, rfl⟩
    · rw [twoL_4, Int.mul_zero, wrap_id I64.zero]
    · rw [twoL_7, and_0]
    · rw [twoL_6, if_neg (by omega)]; simp
    · rw [twoL_6, if_neg (by omega)]; simp
  split
  · rename_i _ _ hc
    obtain ⟨rfl, rfl⟩ := hc
    show twoL 1 (-1) _ = _
    rw [twoL_1, twoL_8, or_m1]
  split
  · rename_i _ _ _ hc
    show twoL 16 (valL rs ar an) _ = _
    rw [twoL_16]
    rcases hc with ⟨rfl, rfl | rfl⟩
    · rw [twoL_4, Int.mul_neg, Int.mul_one]
    · rw [twoL_5, if_neg (by omega)]
      rw [show (-1 : Int) = -(1 : Int) from rfl, Int.tdiv_neg, Int.tdiv_one]
  split
  · rename_i _ _ _ _ hc
    obtain ⟨rfl, rfl⟩ := hc
    show twoL 17 (valL rs ar an) _ = _
    rw [twoL_17, twoL_9, xor_m1 hA]
  · rfl
theorem mean_led {rs : List Int} {op n dst bn fn : Int} {ap : Option Addr} {al ac : Nat} :
    meanI rs (ledI op n dst bn fn ap al ac) = twoL op n (valL rs true bn) := by
  unfold ledI
  split
  · rename_i hc
    obtain ⟨rfl, rfl⟩ := hc
    show twoL 16 (valL rs true bn) _ = _
    rw [twoL_16, twoL_3, Int.zero_sub]
  split
  · rename_i _ hc
    show twoL 1 n _ = _
    rw [twoL_1]
    rcases hc with ⟨rfl, rfl⟩ | ⟨rfl, rfl | rfl⟩
    · rw [twoL_10, Int.zero_mul, wrap_id I64.zero]
    · rw [twoL_11, Int.zero_ediv]
    · rw [twoL_11, neg1_div]
  · rfl
theorem mean_ali {rs : List Int} (hr : ∀ r n, I64 n → I64 (valL rs r n)) {op dst n fn : Int} {ap : Option Addr} {al ac : Nat} (hn : I64 n) :
    meanI rs (aliI op dst n fn ap al ac) = twoL op (valL rs true n) (valL rs true n) := by
  have hA := hr true n hn
  unfold aliI
  split
  · rename_i hc
    show twoL 1 0 _ = _
    rw [twoL_1]
    rcases hc with rfl | rfl | rfl | rfl
    · rw [twoL_3, Int.sub_self, wrap_id I64.zero]
    · rw [twoL_9, xor_self]
    · rw [twoL_13, if_pos rfl]
    · rw [twoL_14, if_neg (by omega)]
  split
  · rename_i _ hc
    show twoL 1 1 _ = _
    rw [twoL_1]
    rcases hc with rfl | rfl
    · rw [twoL_12, if_pos rfl]
    · rw [twoL_15, if_pos (by omega)]
  split
  · rename_i _ _ hc
    show twoL 1 (valL rs true n) _ = _
    rw [twoL_1]
    rcases hc with rfl | rfl
    · rw [twoL_7, and_self hA]
    · rw [twoL_8, or_self hA]
  · rfl
theorem twoL_comm {op : Int} (h : turnB op = true) (a b : Int) : twoL op a b = twoL op b a := by
  have h2 : op = 2 ∨ op = 4 ∨ op = 7 ∨ op = 8 ∨ op = 9 ∨ op = 12 ∨ op = 13 := by
    unfold turnB at h
    simp at h
    omega
  rcases h2 with rfl | rfl | rfl | rfl | rfl | rfl | rfl
  · rw [twoL_2, twoL_2, Int.add_comm]
  · rw [twoL_4, twoL_4, Int.mul_comm]
  · rw [twoL_7, twoL_7, bits_comm_and]
  · rw [twoL_8, twoL_8, bits_comm_or]
  · rw [twoL_9, twoL_9, bits_comm_xor]
  · rw [twoL_12, twoL_12]; simp [eq_comm]
  · rw [twoL_13, twoL_13]; simp [eq_comm]
/-- the simplest form of what reckons comes to the same -/
theorem mean_one {rs : List Int} (hr : ∀ r n, I64 n → I64 (valL rs r n)) {op dst an bn fn : Int} {ar br : Bool} {ap : Option Addr} {al ac : Nat} (h : 1 ≤ op ∧ op ≤ 17) (ha : I64 an) (hb : I64 bn) :
    meanI rs (oneI op dst an bn fn ar br ap al ac) = twoL op (valL rs ar an) (valL rs br bn) := by
  unfold oneI
  split
  · rfl
  split
  · rename_i h1 h2
    have h3 : op = 16 ∨ op = 17 := by omega
    cases ar
    · show twoL 1 (twoL op an bn).1 _ = twoL op an (valL rs br bn)
      rw [twoL_1]
      rcases h3 with rfl | rfl
      · rw [twoL_16, twoL_16]
      · rw [twoL_17, twoL_17]
    · rfl
  split
  · rename_i h1 h2 h3
    obtain ⟨rfl, rfl⟩ := h3
    split
    · rename_i ht
      show twoL 1 (twoL op an bn).1 _ = twoL op an bn
      rw [twoL_1, ← ht]
    · rfl
  have h2 : 2 ≤ op ∧ op ≤ 15 := by omega
  split
  · rename_i h3 h4
    obtain ⟨rfl, ht⟩ := h4
    have hbr : br = true := by cases br; exact absurd ⟨rfl, rfl⟩ h3; rfl
    subst hbr
    rw [mean_fix hr h2 hb]
    exact twoL_comm ht _ _
  split
  · rename_i h3 h4 h5
    obtain ⟨rfl, rfl⟩ := h5
    have har : ar = true := by cases ar; exact absurd ⟨rfl, rfl⟩ h3; rfl
    subst har
    rw [mean_fix hr (by omega) ha, twoL_2, twoL_3]
    show _ = (wrap64 (_ - bn), true)
    congr 1
    unfold wrap64
    omega
  split
  · rename_i h3 h4 h5 h6
    subst h6
    have har : ar = true := by cases ar; exact absurd ⟨rfl, rfl⟩ h3; rfl
    subst har
    rw [mean_fix hr h2 ha]
    rfl
  split
  · rename_i h3 h4 h5 h6 h7
    subst h7
    have hbr : br = true := by cases br; exact absurd rfl h6; rfl
    subst hbr
    rw [mean_led]
    rfl
  have har : ar = true := by cases ar; contradiction; rfl
  have hbr : br = true := by cases br; contradiction; rfl
  subst har
  subst hbr
  split
  · rename_i he
    subst he
    exact mean_ali hr ha
  · rfl
end Go.Proofs.YtlalmbklhmpngaaDoor
