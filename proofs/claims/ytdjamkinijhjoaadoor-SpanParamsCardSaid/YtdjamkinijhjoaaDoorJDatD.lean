/-
  Plain: intervals of numbers: what an instruction makes of two of them, and those of all registers of a function, round by round.
  The contracts of package span's small functions.
  The contracts of the reference's small functions on intervals.
  What came in is read in the middle of a walk: the elements of slices, behind calls that made new memory alone.
-/
import Derived.Test.YtdjamkinijhjoaaDoorJDatC
import Derived.WalkKit
import Derived.WalkSpells
import Derived.WalkLawsBesides
namespace Go.Proofs.YtdjamkinijhjoaaDoor
open Go.RowKit

/-- an interval, or none -/
structure Spn where
  lo : Int
  hi : Int
  has : Bool
theorem Spn.ext' {a b : Spn} (h1 : a.lo = b.lo) (h2 : a.hi = b.hi) (h3 : a.has = b.has) : a = b := by
  cases a; cases b; simp at h1 h2 h3; subst h1 h2 h3; rfl
def minI : Int := -9223372036854775808
def maxI : Int := 9223372036854775807
def noS' : Spn := ⟨0, 0, false⟩
def allS : Spn := ⟨minI, maxI, true⟩
def ofS (l h : Int) : Spn := ⟨l, h, true⟩
def eqS (a b : Spn) : Bool := a.lo == b.lo && a.hi == b.hi && a.has == b.has
theorem eqS_iff {a b : Spn} : eqS a b = true ↔ a = b := by
  unfold eqS
  constructor
  · intro h
    simp only [Bool.and_eq_true, beq_iff_eq] at h
    exact Spn.ext' h.1.1 h.1.2 h.2
  · rintro rfl; simp
theorem eqS_no {a b : Spn} (h : a ≠ b) : eqS a b = false := by
  cases e : eqS a b
  · rfl
  · exact absurd (eqS_iff.1 e) h
def joinS (a b : Spn) : Spn := if a.has = false then b else if b.has = false then a else ofS (min a.lo b.lo) (max a.hi b.hi)
def oneS (a : Spn) : Bool := a.has && a.lo == a.hi
def i64B (n : Int) : Bool := decide (minI ≤ n ∧ n ≤ maxI)
/-- of numbers: from the least to the greatest; with one that does not fit all -/
def overS : List Int → Spn → Spn
  | [], s => s
  | n :: l, s => if i64B n = true then overS l (joinS s (ofS n n)) else allS
def sureS (yes no : Bool) : Spn := if yes = true then ofS 1 1 else if no = true then ofS 0 0 else ofS 0 1
/-- how many bits -/
def lenBt (n : Int) : Nat := if n ≤ 0 then 0 else n.toNat.log2 + 1
def maskS (n : Int) : Int := 2 ^ lenBt n - 1
def divS (op : Int) (x y : Spn) : Spn :=
  if y.lo < 1 then allS
  else if op = 5 ∧ y.lo = y.hi then ofS (x.lo.tdiv y.lo) (x.hi.tdiv y.lo)
  else if op = 5 then ofS (min x.lo 0) (max x.hi 0)
  else if 0 ≤ x.lo then ofS 0 (min x.hi (y.hi - 1))
  else if x.hi ≤ 0 then ofS (max x.lo (1 - y.hi)) 0
  else ofS (max x.lo (1 - y.hi)) (min x.hi (y.hi - 1))
def logS (op : Int) (x y : Spn) : Spn :=
  if op = 7 then
    if 0 ≤ x.lo ∧ 0 ≤ y.lo then ofS 0 (min x.hi y.hi) else if 0 ≤ x.lo then ofS 0 x.hi else if 0 ≤ y.lo then ofS 0 y.hi else allS
  else if x.lo < 0 ∨ y.lo < 0 then allS
  else if op = 8 then ofS (max x.lo y.lo) (maskS (max x.hi y.hi))
  else ofS 0 (maskS (max x.hi y.hi))
def shfS (op : Int) (x y : Spn) : Spn :=
  if op = 10 then (if x.lo = x.hi ∧ y.lo = y.hi then ofS (twoL 10 x.lo y.lo).1 (twoL 10 x.lo y.lo).1 else allS)
  else if y.lo = y.hi then ofS (twoL 11 x.lo y.lo).1 (twoL 11 x.hi y.lo).1
  else ofS (min x.lo 0) (max x.hi (-1))
def apartB (x y : Spn) : Bool := decide (x.hi < y.lo ∨ y.hi < x.lo)
def sameSp (x y : Spn) : Bool := decide (x.lo = x.hi ∧ y.lo = y.hi ∧ x.lo = y.lo)
def tstS (op : Int) (x y : Spn) : Spn :=
  if op = 12 then sureS (sameSp x y) (apartB x y)
  else if op = 13 then sureS (apartB x y) (sameSp x y)
  else if op = 14 then sureS (decide (x.hi < y.lo)) (decide (y.hi ≤ x.lo))
  else sureS (decide (x.hi ≤ y.lo)) (decide (y.hi < x.lo))
/-- what an instruction makes of what its values are between -/
def makS (op : Int) (x y : Spn) : Spn :=
  if 17 < op then allS
  else if x.has = false ∨ (2 ≤ op ∧ op ≤ 15) ∧ y.has = false then noS'
  else if op = 1 then x
  else if op = 2 then overS [x.lo + y.lo, x.hi + y.hi] noS'
  else if op = 3 then overS [x.lo - y.hi, x.hi - y.lo] noS'
  else if op = 4 then overS [x.lo * y.lo, x.lo * y.hi, x.hi * y.lo, x.hi * y.hi] noS'
  else if op = 5 ∨ op = 6 then divS op x y
  else if op = 7 ∨ op = 8 ∨ op = 9 then logS op x y
  else if op = 10 ∨ op = 11 then shfS op x y
  else if op = 16 then (if x.lo = minI then allS else ofS (-x.hi) (-x.lo))
  else if op = 17 then ofS (-1 - x.hi) (-1 - x.lo)
  else tstS op x y

/-- an interval that is right -/
structure SpOk (s : Spn) : Prop where
  lo : I64 s.lo
  hi : I64 s.hi
  le : s.has = true → s.lo ≤ s.hi
  no : s.has = false → s = noS'
theorem SpOk.none : SpOk noS' := ⟨by unfold I64 noS'; simp, by unfold I64 noS'; simp, by simp [noS'], fun _ => rfl⟩
theorem SpOk.all : SpOk allS := ⟨by unfold I64 allS minI; simp, by unfold I64 allS maxI; simp, by simp [allS, minI, maxI], by simp [allS]⟩
theorem SpOk.of {l h : Int} (h1 : -9223372036854775808 ≤ l) (h2 : l ≤ h) (h3 : h ≤ 9223372036854775807) : SpOk (ofS l h) :=
  ⟨by unfold I64; show _ ≤ l ∧ l ≤ _; omega, by unfold I64; show _ ≤ h ∧ h ≤ _; omega, fun _ => h2, by simp [ofS]⟩
theorem joinS_has {a b : Spn} (h1 : a.has = true) (h2 : b.has = true) : joinS a b = ofS (min a.lo b.lo) (max a.hi b.hi) := by
  unfold joinS; simp [h1, h2]
theorem joinS_left {a b : Spn} (h1 : a.has = false) : joinS a b = b := by unfold joinS; simp [h1]
theorem joinS_right {a b : Spn} (h1 : a.has = true) (h2 : b.has = false) : joinS a b = a := by unfold joinS; simp [h1, h2]
theorem SpOk.join {a b : Spn} (ha : SpOk a) (hb : SpOk b) : SpOk (joinS a b) := by
  cases h1 : a.has
  · rw [joinS_left h1]; exact hb
  · cases h2 : b.has
    · rw [joinS_right h1 h2]; exact ha
    · rw [joinS_has h1 h2]
      have := ha.le h1
      have := hb.le h2
      have := ha.lo
      have := hb.lo
      have := ha.hi
      have := hb.hi
      unfold I64 at *
      exact .of (by omega) (by omega) (by omega)
/-- the join of a right one: what it had stays in it -/
theorem joinS_wide {a b : Spn} (_ha : SpOk a) (h : a.has = true) : (joinS a b).has = true ∧ (joinS a b).lo ≤ a.lo ∧ a.hi ≤ (joinS a b).hi := by
  cases h2 : b.has
  · rw [joinS_right h h2]; exact ⟨h, Int.le_refl _, Int.le_refl _⟩
  · rw [joinS_has h h2]
    exact ⟨rfl, by show min _ _ ≤ _; omega, by show _ ≤ max _ _; omega⟩

/-- a register's interval behind a turn -/
def widS (turn : Nat) (old s : Spn) : Spn :=
  if 2 < turn ∧ old.has = true then ⟨if s.lo < old.lo then minI else s.lo, if old.hi < s.hi then maxI else s.hi, s.has⟩ else s
/-- one register anew; is it another one than before? -/
def chgS (l : Nat → Spn) (d : Nat) (s : Spn) : Bool := !eqS (joinS (l d) s) (l d)
def newS (turn : Nat) (old s : Spn) : Spn := if eqS (joinS old s) old = true then old else widS turn old (joinS old s)
def setS (l : Nat → Spn) (d : Nat) (s : Spn) : Nat → Spn := fun r => if r = d then s else l r
theorem setS_self {l : Nat → Spn} {d : Nat} {s : Spn} : setS l d s d = s := by unfold setS; simp
theorem setS_other {l : Nat → Spn} {d r : Nat} {s : Spn} (h : r ≠ d) : setS l d s r = l r := by unfold setS; simp [h]
theorem setS_same {l : Nat → Spn} {d : Nat} : setS l d (l d) = l := by
  funext r; unfold setS; split
  · next h => rw [h]
  · rfl
def putSp (turn : Nat) (l : Nat → Spn) (d : Nat) (s : Spn) : Nat → Spn := setS l d (newS turn (l d) s)

theorem SpOk.wid {turn : Nat} {a b : Spn} (ha : SpOk a) (hb : SpOk b) : SpOk (widS turn a (joinS a b)) := by
  have hj := ha.join hb
  unfold widS
  split
  · next h =>
    have hw := joinS_wide (b := b) ha h.2
    have := hj.le hw.1
    have := hj.lo
    have := hj.hi
    unfold I64 at *
    refine ⟨?_, ?_, fun _ => ?_, fun hn => ?_⟩
    · show I64 (if _ then _ else _)
      unfold I64 minI; split <;> omega
    · show I64 (if _ then _ else _)
      unfold I64 maxI; split <;> omega
    · show (if _ then _ else _) ≤ (if _ then _ else _)
      unfold minI maxI; split <;> split <;> omega
    · rw [show _ = (joinS a b).has from rfl, hw.1] at hn
      cases hn
  · exact hj
theorem SpOk.new {turn : Nat} {a b : Spn} (ha : SpOk a) (hb : SpOk b) : SpOk (newS turn a b) := by
  unfold newS
  split
  · exact ha
  · exact ha.wid hb
theorem putSp_ok {turn : Nat} {l : Nat → Spn} {d : Nat} {s : Spn} (h : ∀ r, SpOk (l r)) (hs : SpOk s) : ∀ r, SpOk (putSp turn l d s r) := by
  intro r
  unfold putSp setS
  split
  · exact (h d).new hs
  · exact h r

/-- how far from all: falls with each change, from the third turn on -/
def rkS (s : Spn) : Nat := if s.has = false then 3 else (if s.lo = minI then 0 else 1) + (if s.hi = maxI then 0 else 1)
theorem rkS_le (s : Spn) : rkS s ≤ 3 := by
  unfold rkS; split
  · omega
  · split <;> split <;> omega
theorem new_rank {turn : Nat} {a b : Spn} (h2 : 2 < turn) (ha : SpOk a) (hb : SpOk b) (hne : eqS (joinS a b) a = false) : rkS (newS turn a b) < rkS a := by
  unfold newS
  rw [if_neg (by simp [hne])]
  have hn : joinS a b ≠ a := fun e => by rw [eqS_iff.2 e] at hne; cases hne
  cases h1 : a.has
  · have hbh : b.has = true := by
      cases h : b.has
      · exact absurd (by rw [joinS_left h1, ha.no h1, hb.no h]) hn
      · rfl
    unfold widS
    rw [if_neg (by simp [h1]), joinS_left h1]
    unfold rkS
    rw [if_neg (by simp [hbh]), if_pos h1]
    split <;> split <;> omega
  · obtain ⟨w1, w2, w3⟩ := joinS_wide (b := b) ha h1
    have hlo := ha.lo
    have hhi := ha.hi
    have hjl := (ha.join hb).lo
    have hjh := (ha.join hb).hi
    unfold widS
    rw [if_pos ⟨h2, h1⟩]
    unfold rkS
    simp only [h1, w1, if_false, Bool.true_eq_false]
    unfold I64 at *
    have hor : (joinS a b).lo < a.lo ∨ a.hi < (joinS a b).hi := by
      rcases Int.lt_or_le (joinS a b).lo a.lo with h | h
      · exact .inl h
      · rcases Int.lt_or_le a.hi (joinS a b).hi with g | g
        · exact .inr g
        · exact absurd (Spn.ext' (by omega) (by omega) (by rw [w1, h1])) hn
    unfold minI maxI
    by_cases c1 : (joinS a b).lo < a.lo <;> by_cases c2 : a.hi < (joinS a b).hi <;> simp only [c1, c2, if_true, if_false]
    · rw [if_neg (by omega), if_neg (by omega)]; omega
    · rw [if_neg (show ¬ a.lo = -9223372036854775808 by omega)]
      have : (joinS a b).hi = a.hi := by omega
      rw [this]; split <;> omega
    · rw [if_neg (show ¬ a.hi = 9223372036854775807 by omega)]
      have : (joinS a b).lo = a.lo := by omega
      rw [this]; split <;> omega
    · omega
def rksS (n : Nat) (l : Nat → Spn) : Nat := ((List.range n).map fun r => rkS (l r)).sum
theorem rksS_succ (n : Nat) (l : Nat → Spn) : rksS (n + 1) l = rksS n l + rkS (l n) := by
  unfold rksS; rw [List.range_succ]; simp
theorem rksS_le (n : Nat) (l : Nat → Spn) : rksS n l ≤ 3 * n := by
  induction n with
  | zero => simp [rksS]
  | succ n ih => rw [rksS_succ]; have := rkS_le (l n); omega
theorem rksS_set {l : Nat → Spn} {d : Nat} {s : Spn} (hs : rkS s ≤ rkS (l d)) : ∀ n, rksS n (setS l d s) ≤ rksS n l ∧ (d < n → rkS s < rkS (l d) → rksS n (setS l d s) < rksS n l)
  | 0 => ⟨by simp [rksS], fun h => by omega⟩
  | n + 1 => by
    obtain ⟨h1, h2⟩ := rksS_set hs n
    rw [rksS_succ, rksS_succ]
    by_cases e : n = d
    · subst e
      rw [setS_self]
      exact ⟨by omega, fun _ h => by omega⟩
    · rw [setS_other e]
      exact ⟨by omega, fun h g => by have := h2 (by omega) g; omega⟩

/-- what is made anew in a round: phis and instructions -/
inductive ItS where
  | phi (p : PhiL)
  | ins (i : InsL)
def vlS (l : Nat → Spn) (v : Bool × Int) : Spn := if v.1 = true then l v.2.toNat else ofS v.2 v.2
def phS (l : Nat → Spn) (src : List (Bool × Int)) : Spn := src.foldl (fun s v => joinS s (vlS l v)) noS'
def ItS.dst : ItS → Int
  | .phi p => p.dst
  | .ins i => i.dst
def ItS.made (l : Nat → Spn) : ItS → Spn
  | .phi p => phS l p.src
  | .ins i => makS i.op (vlS l (i.ar, i.an)) (vlS l (i.br, i.bn))
/-- the intervals of all registers, and has any changed -/
def itS (turn : Nat) (s : (Nat → Spn) × Bool) (x : ItS) : (Nat → Spn) × Bool :=
  if x.dst < 0 then s else (putSp turn s.1 x.dst.toNat (x.made s.1), s.2 || chgS s.1 x.dst.toNat (x.made s.1))
def itsB (b : BlkL) : List ItS := b.phis.map .phi ++ b.list.map .ins
def itsF (f : FunL) : List ItS := f.blocks.flatMap itsB
def rndS (f : FunL) (turn : Nat) (l : Nat → Spn) : (Nat → Spn) × Bool := (itsF f).foldl (itS turn) (l, false)
def spnN (f : FunL) : Nat → Nat → (Nat → Spn) → Nat → Spn
  | 0, _, l => l
  | k + 1, t, l => if (rndS f t l).2 = true then spnN f k (t + 1) (rndS f t l).1 else (rndS f t l).1
def initS (f : FunL) (r : Nat) : Spn := if (r : Int) < f.params then allS else noS'
/-- how many rounds are left -/
def msS (n t : Nat) (l : Nat → Spn) : Nat := (3 - t) * (3 * n + 2) + rksS n l + 1
def spnF (f : FunL) : Nat → Spn := spnN f (msS f.regs.toNat 0 (initS f) + 1) 0 (initS f)

/-- what the intervals ask of the numbers in a function -/
def ItOk (n : Nat) : ItS → Prop
  | .phi p => p.dst < n ∧ ∀ v ∈ p.src, I64 v.2 ∧ (v.1 = true → 0 ≤ v.2 ∧ v.2 < n)
  | .ins i => i.dst < n ∧ 1 ≤ i.op ∧ i.op ≤ 22 ∧ I64 i.an ∧ I64 i.bn ∧ (i.ar = true → 0 ≤ i.an ∧ i.an < n) ∧ (i.br = true → 0 ≤ i.bn ∧ i.bn < n)
theorem ItOk.dst {n : Nat} : ∀ {x : ItS}, ItOk n x → x.dst < n
  | .phi _, h => h.1
  | .ins _, h => h.1

theorem tdiv_bd {a b m : Int} (hb : 1 ≤ b) (hm : 0 ≤ m) (h1 : -m - 1 ≤ a) (h2 : a ≤ m) : -m - 1 ≤ a.tdiv b ∧ a.tdiv b ≤ m := by
  rcases Int.lt_or_le a 0 with h | h
  · have e : a.tdiv b = -((-a).tdiv b) := by rw [Int.neg_tdiv]; omega
    have h3 : 0 ≤ (-a).tdiv b := Int.tdiv_nonneg (by omega) (by omega)
    have h4 : (-a).tdiv b ≤ -a := by
      rw [Int.tdiv_eq_ediv_of_nonneg (by omega)]
      exact Int.ediv_le_self _ (by omega)
    omega
  · have h3 : 0 ≤ a.tdiv b := Int.tdiv_nonneg h (by omega)
    have h4 : a.tdiv b ≤ a := by
      rw [Int.tdiv_eq_ediv_of_nonneg h]
      exact Int.ediv_le_self _ h
    omega
theorem tdiv_mono {a b c : Int} (hc : 1 ≤ c) (h : a ≤ b) : a.tdiv c ≤ b.tdiv c := by
  rcases Int.lt_or_le a 0 with h1 | h1
  · have ea : a.tdiv c = -((-a).tdiv c) := by rw [Int.neg_tdiv]; omega
    rcases Int.lt_or_le b 0 with h2 | h2
    · have eb : b.tdiv c = -((-b).tdiv c) := by rw [Int.neg_tdiv]; omega
      have : (-b).tdiv c ≤ (-a).tdiv c := by
        rw [Int.tdiv_eq_ediv_of_nonneg (by omega), Int.tdiv_eq_ediv_of_nonneg (by omega)]
        exact Int.ediv_le_ediv (by omega) (by omega)
      omega
    · have h3 : 0 ≤ (-a).tdiv c := Int.tdiv_nonneg (by omega) (by omega)
      have h4 : 0 ≤ b.tdiv c := Int.tdiv_nonneg h2 (by omega)
      omega
  · rw [Int.tdiv_eq_ediv_of_nonneg h1, Int.tdiv_eq_ediv_of_nonneg (by omega)]
    exact Int.ediv_le_ediv (by omega) h
theorem maskS_bd {n : Int} (h0 : 0 ≤ n) (h1 : n ≤ maxI) : n ≤ maskS n ∧ maskS n ≤ maxI := by
  unfold maskS lenBt
  split
  · have : n = 0 := by omega
    subst this; unfold maxI; simp
  · have hn : n.toNat ≠ 0 := by omega
    have h2 : n.toNat < 2 ^ (n.toNat.log2 + 1) := Nat.lt_log2_self
    have h3 : n.toNat.log2 < 63 := (Nat.log2_lt hn).2 (by unfold maxI at h1; omega)
    have h4 : 2 ^ (n.toNat.log2 + 1) ≤ 2 ^ 63 := Nat.pow_le_pow_right (by omega) (by omega)
    have h5 : ((2 : Int) ^ (n.toNat.log2 + 1)) = ((2 ^ (n.toNat.log2 + 1) : Nat) : Int) := by simp
    rw [h5]
    generalize 2 ^ (n.toNat.log2 + 1) = m at *
    unfold maxI
    omega
theorem SpOk.over : ∀ (l : List Int) {s : Spn}, SpOk s → SpOk (overS l s)
  | [], _, h => h
  | n :: l, s, h => by
    unfold overS
    split
    · next g =>
      have g : minI ≤ n ∧ n ≤ maxI := by simpa [i64B] using g
      unfold minI maxI at g
      exact SpOk.over l (h.join (.of (by omega) (by omega) (by omega)))
    · exact .all
theorem SpOk.sure (a b : Bool) : SpOk (sureS a b) := by
  unfold sureS
  split
  · exact .of (by omega) (by omega) (by omega)
  · split <;> exact .of (by omega) (by omega) (by omega)
theorem sh_11 (a b : Int) : (twoL 11 a b).1 = a / 2 ^ (b % 64).toNat := rfl
theorem sh_bd {a : Int} (k : Nat) (h1 : -9223372036854775808 ≤ a) (h2 : a ≤ 9223372036854775807) : -9223372036854775808 ≤ a / 2 ^ k ∧ a / 2 ^ k ≤ 9223372036854775807 := by
  have hp : (0 : Int) < 2 ^ k := by
    have : (0 : Nat) < 2 ^ k := Nat.pow_pos (by omega)
    have e : ((2 : Int) ^ k) = ((2 ^ k : Nat) : Int) := by simp
    rw [e]; omega
  constructor
  · rw [Int.le_ediv_iff_mul_le hp]
    generalize (2 : Int) ^ k = p at *
    omega
  · have h3 : a / 2 ^ k ≤ 9223372036854775807 / 2 ^ k := Int.ediv_le_ediv hp h2
    have h4 : (9223372036854775807 : Int) / 2 ^ k ≤ 9223372036854775807 := Int.ediv_le_self _ (by omega)
    omega
theorem sh_mono {a b : Int} (k : Nat) (h : a ≤ b) : a / 2 ^ k ≤ b / 2 ^ k := by
  have hp : (0 : Int) < 2 ^ k := by
    have : (0 : Nat) < 2 ^ k := Nat.pow_pos (by omega)
    have e : ((2 : Int) ^ k) = ((2 ^ k : Nat) : Int) := by simp
    rw [e]; omega
  exact Int.ediv_le_ediv hp h
theorem SpOk.mak {op : Int} {x y : Spn} (hx : SpOk x) (hy : SpOk y) (h1 : 1 ≤ op) : SpOk (makS op x y) := by
  unfold makS
  by_cases h17 : 17 < op
  · rw [if_pos h17]; exact .all
  rw [if_neg h17]
  by_cases hn : x.has = false ∨ (2 ≤ op ∧ op ≤ 15) ∧ y.has = false
  · rw [if_pos hn]; exact .none
  rw [if_neg hn]
  have hxh : x.has = true := by
    cases h : x.has
    · exact absurd (.inl h) hn
    · rfl
  have xle := hx.le hxh
  obtain ⟨x1, x2⟩ := hx.lo
  obtain ⟨x3, x4⟩ := hx.hi
  have hyh : 2 ≤ op ∧ op ≤ 15 → y.lo ≤ y.hi := fun h => hy.le (by
    cases g : y.has
    · exact absurd (.inr ⟨h, g⟩) hn
    · rfl)
  obtain ⟨y1, y2⟩ := hy.lo
  obtain ⟨y3, y4⟩ := hy.hi
  split
  · exact hx
  split
  · exact .over _ .none
  split
  · exact .over _ .none
  split
  · exact .over _ .none
  split
  · have yle := hyh (by omega)
    unfold divS
    split
    · exact .all
    split
    · have a1 := tdiv_bd (a := x.lo) (b := y.lo) (m := 9223372036854775807) (by omega) (by omega) (by omega) (by omega)
      have a2 := tdiv_bd (a := x.hi) (b := y.lo) (m := 9223372036854775807) (by omega) (by omega) (by omega) (by omega)
      exact .of (by omega) (tdiv_mono (by omega) xle) (by omega)
    split
    · exact .of (by omega) (by omega) (by omega)
    split
    · exact .of (by omega) (by omega) (by omega)
    split
    · exact .of (by omega) (by omega) (by omega)
    · exact .of (by omega) (by omega) (by omega)
  split
  · have yle := hyh (by omega)
    unfold logS
    split
    · split
      · exact .of (by omega) (by omega) (by omega)
      split
      · exact .of (by omega) (by omega) (by omega)
      split
      · exact .of (by omega) (by omega) (by omega)
      · exact .all
    split
    · exact .all
    have hm := maskS_bd (n := max x.hi y.hi) (by omega) (by unfold maxI; omega)
    unfold maxI at hm
    split
    · exact .of (by omega) (by omega) (by omega)
    · exact .of (by omega) (by omega) (by omega)
  split
  · unfold shfS
    split
    · split
      · have : I64 (twoL 10 x.lo y.lo).1 := by
          show I64 (wrap64 _)
          unfold I64 wrap64; omega
        unfold I64 at this
        exact .of (by omega) (by omega) (by omega)
      · exact .all
    split
    · rw [sh_11, sh_11]
      have a1 := sh_bd (y.lo % 64).toNat x1 x2
      have a2 := sh_bd (y.lo % 64).toNat x3 x4
      exact .of (by omega) (sh_mono _ xle) (by omega)
    · exact .of (by omega) (by omega) (by omega)
  split
  · split
    · exact .all
    · unfold minI at *
      exact .of (by omega) (by omega) (by omega)
  split
  · exact .of (by omega) (by omega) (by omega)
  · unfold tstS
    split
    · exact .sure _ _
    split
    · exact .sure _ _
    split
    · exact .sure _ _
    · exact .sure _ _
end Go.Proofs.YtdjamkinijhjoaaDoor
namespace Go.Proofs.YtdjamkinijhjoaaDoor
open Go.RowKit

/-- cells of an interval -/
def spC (s : Spn) : Array Value := #[.int .i64 s.lo, .int .i64 s.hi, .bool s.has]
theorem spanJust_any (n : Int) (w : World) :
    Calls Tryd.prog 50 #[.int .i64 n] w fun e w' => e = .returned (.agg #[.int .i64 n, .int .i64 n, .bool true]) ∧ w' = w.alloc (.cells #[.int .i64 n, .int .i64 n, .bool true] 74) := by
  go_enter Tryd.func50, Tryd.ntmps50
  go_wp2
  refine bodyPost_ret (v := .agg #[.int .i64 n, .int .i64 n, .bool true]) ?_ rfl ⟨rfl, ?_⟩
  · simp [results, Tryd.results50, go_sem]
  · rfl
theorem spanFrom_any (l h : Int) (w : World) :
    Calls Tryd.prog 85 #[.int .i64 l, .int .i64 h] w fun e w' => e = .returned (.agg #[.int .i64 l, .int .i64 h, .bool true]) ∧ w' = w.alloc (.cells #[.int .i64 l, .int .i64 h, .bool true] 74) := by
  go_enter Tryd.func85, Tryd.ntmps85
  go_wp2
  refine bodyPost_ret (v := .agg #[.int .i64 l, .int .i64 h, .bool true]) ?_ rfl ⟨rfl, ?_⟩
  · simp [results, Tryd.results85, go_sem]
  · rfl
theorem spanSum_any (a b : Int) (w : World) :
    Calls Tryd.prog 89 #[.int .i64 a, .int .i64 b] w fun e w' => e = .returned (.tuple #[.int .i64 (wrap64 (a + b)), .bool (decide (a < wrap64 (a + b)) == decide (0 < b))]) ∧ w = w' := by
  go_enter Tryd.func89, Tryd.ntmps89
  go_wp2
  refine bodyPost_ret (v := .tuple #[.int .i64 (wrap64 (a + b)), .bool (decide (a < wrap64 (a + b)) == decide (0 < b))]) ?_ rfl ⟨rfl, rfl⟩
  simp [results, Tryd.results89, go_sem]
theorem spanOne_any (s : Spn) (w : World) :
    Calls Tryd.prog 127 #[.agg (spC s)] w fun e w' => e = .returned (.bool (oneS s)) ∧ w' = w.alloc (.cells (spC s) 74) := by
  obtain ⟨l, h, b⟩ := s
  unfold spC oneS
  cases b
  · go_enter Tryd.func127, Tryd.ntmps127
    go_wp2
    go_ret
    exact ⟨rfl, rfl⟩
  · go_enter Tryd.func127, Tryd.ntmps127
    go_wp2
    go_ret
    exact ⟨by simp, rfl⟩
theorem spanSure_any (a b : Bool) (w : World) :
    Calls Tryd.prog 129 #[.bool a, .bool b] w fun e w' => e = .returned (.agg (spC (sureS a b))) ∧ w' = (w.alloc (.cells (spC (sureS a b)) 74)).alloc (.cells (spC (sureS a b)) 74) := by
  cases a <;> cases b
  all_goals
    go_enter Tryd.func129, Tryd.ntmps129
    go_wp2_with (first | (go_at_call 50; refine (spanJust_any _ _).mono ?_; rintro e w1 ⟨rfl, rfl⟩) | (go_at_call 85; refine (spanFrom_any _ _ _).mono ?_; rintro e w1 ⟨rfl, rfl⟩))
    refine bodyPost_ret ?_ rfl ⟨rfl, ?_⟩
    · simp [results, Tryd.results129, go_sem, spC, sureS, ofS]
    · rfl
/-- the package's variable all lies where the program has it -/
def AllW (w : World) : Prop := w.cell? ⟨0, 0, none⟩ = some (.int .i64 (-9223372036854775808)) ∧ w.cell? ⟨0, 1, none⟩ = some (.int .i64 9223372036854775807) ∧ w.cell? ⟨0, 2, none⟩ = some (.bool true)
theorem AllW.below {w w' : World} (h : AllW w) (hb : Below w.heap.size w w') : AllW w' :=
  ⟨(hb.cell (p := ⟨0, 0, none⟩) (lt_of_cell h.1)).trans h.1, (hb.cell (p := ⟨0, 1, none⟩) (lt_of_cell h.1)).trans h.2.1, (hb.cell (p := ⟨0, 2, none⟩) (lt_of_cell h.1)).trans h.2.2⟩
theorem spanJoin_any (a b : Spn) (w : World) :
    Calls Tryd.prog 52 #[.agg (spC a), .agg (spC b)] w fun e w' => e = .returned (.agg (spC (joinS a b))) ∧ Below w.heap.size w w' := by
  obtain ⟨l, h, s⟩ := a
  obtain ⟨l2, h2, s2⟩ := b
  unfold joinS
  cases s <;> cases s2
  all_goals
    simp only [spC, Bool.true_eq_false, if_true, if_false]
    go_enter Tryd.func52, Tryd.ntmps52
    go_wp2_with (go_at_call 85; refine (spanFrom_any _ _ _).mono ?_; rintro e w1 ⟨rfl, rfl⟩)
    all_goals
      refine bodyPost_ret ?_ rfl ⟨rfl, ?_⟩
      · first
          | (simp [results, Tryd.results52, go_sem, ofS]; done)
          | (simp [results, Tryd.results52, go_sem, ofS]; omega)
      · repeat (first | with_reducible exact Below.refl _ _ | with_reducible exact HB3.out | with_reducible refine Below.drew ?_ | with_reducible refine below_drewN ?_ _ | with_reducible refine Below.setCell ?_ ?_ _ | with_reducible refine Below.alloc ?_ ?_ _ | with_reducible exact HB2.out | with_reducible exact HB1.out | with_reducible refine Below.trans ?_ (Below.mono hb3 ?_) | with_reducible refine Below.trans ?_ (Below.mono hb5 ?_) | with_reducible refine Below.trans ?_ (Below.mono hb4 ?_) | omega | (simp; omega) | simp)
end Go.Proofs.YtdjamkinijhjoaaDoor
namespace Go.Proofs.YtdjamkinijhjoaaDoor
open Go.RowKit

theorem rAll_any (w : World) :
    Calls Tryd.prog 25 #[] w fun e w' => e = .returned (.agg #[.int .i64 (-9223372036854775808), .int .i64 9223372036854775807, .bool true]) ∧ w' = w.alloc (.cells #[.int .i64 (-9223372036854775808), .int .i64 9223372036854775807, .bool true] 40) := by
  go_enter Tryd.func25, Tryd.ntmps25
  go_wp2
  refine bodyPost_ret (v := .agg #[.int .i64 (-9223372036854775808), .int .i64 9223372036854775807, .bool true]) ?_ rfl ⟨rfl, ?_⟩
  · simp [results, Tryd.results25, go_sem]
  · rfl
theorem rOf_any (l h : Int) (w : World) :
    Calls Tryd.prog 59 #[.int .i64 l, .int .i64 h] w fun e w' => e = .returned (.agg #[.int .i64 l, .int .i64 h, .bool true]) ∧ w' = w.alloc (.cells #[.int .i64 l, .int .i64 h, .bool true] 40) := by
  go_enter Tryd.func59, Tryd.ntmps59
  go_wp2
  refine bodyPost_ret (v := .agg #[.int .i64 l, .int .i64 h, .bool true]) ?_ rfl ⟨rfl, ?_⟩
  · simp [results, Tryd.results59, go_sem]
  · rfl
theorem rJoin_any (a b : Spn) (w : World) :
    Calls Tryd.prog 26 #[.agg #[.int .i64 a.lo, .int .i64 a.hi, .bool a.has], .agg #[.int .i64 b.lo, .int .i64 b.hi, .bool b.has]] w fun e w' => e = .returned (.agg #[.int .i64 (joinS a b).lo, .int .i64 (joinS a b).hi, .bool (joinS a b).has]) ∧ Below w.heap.size w w' := by
  obtain ⟨l, h, s⟩ := a
  obtain ⟨l2, h2, s2⟩ := b
  unfold joinS
  cases s <;> cases s2
  all_goals
    simp only [Bool.true_eq_false, if_true, if_false]
    go_enter Tryd.func26, Tryd.ntmps26
    go_wp2_with (go_at_call 59; refine (rOf_any _ _ _).mono ?_; rintro e w1 ⟨rfl, rfl⟩)
    all_goals
      refine bodyPost_ret ?_ rfl ⟨rfl, ?_⟩
      · first
          | (simp [results, Tryd.results26, go_sem, ofS]; done)
          | (simp [results, Tryd.results26, go_sem, ofS]; omega)
      · repeat (first | with_reducible exact Below.refl _ _ | with_reducible exact HB3.out | with_reducible refine Below.drew ?_ | with_reducible refine below_drewN ?_ _ | with_reducible refine Below.setCell ?_ ?_ _ | with_reducible refine Below.alloc ?_ ?_ _ | with_reducible exact HB2.out | with_reducible exact HB1.out | with_reducible refine Below.trans ?_ (Below.mono hb3 ?_) | with_reducible refine Below.trans ?_ (Below.mono hb5 ?_) | with_reducible refine Below.trans ?_ (Below.mono hb4 ?_) | omega | (simp; omega) | simp)
end Go.Proofs.YtdjamkinijhjoaaDoor
namespace Go.Proofs.YtdjamkinijhjoaaDoor
open Go.RowKit

theorem hidI {p : Prop} (h : p) : Hid p := h

theorem ltHeap {w : World} {b : Nat} {o : Obj} (h : w.heap[b]? = some o) : b < w.heap.size := by
  rcases Nat.lt_or_ge b w.heap.size with g | g
  · exact g
  · rw [Array.getElem?_eq_none g] at h; cases h

theorem SliceAt.mono {α : Type} {w w' : World} {size : Nat} {R R' : List Value → α → Prop} {p : Option Addr} {xs : List α} (h : SliceAt w size R p xs) (hb : Below w.heap.size w w') (_hs : 0 < size) (hR : ∀ cs x, R cs x → R' cs x) : SliceAt w' size R' p xs := by
  rcases h with h | ⟨b, o, hp, h⟩
  · exact .inl h
  · refine .inr ⟨b, o, hp, fun i hi => ?_⟩
    obtain ⟨cs, hl, hc, hr⟩ := h i hi
    refine ⟨cs, hl, fun j hj => ?_, hR _ _ hr⟩
    have hc0 := hc j hj
    rw [List.getElem?_eq_getElem (by omega)] at hc0
    rw [hb.cell (p := ⟨b, o + i * size + j, none⟩) (lt_of_cell hc0), hc j hj]
theorem SlF.mono {α : Type} {w w' : World} {size bytes : Nat} {R R' : List Value → α → Prop} {v : Value} {xs : List α} (h : SlF w size bytes R v xs) (hb : Below w.heap.size w w') (hs : 0 < size) (hR : ∀ cs x, R cs x → R' cs x) : SlF w' size bytes R' v xs := by
  obtain ⟨p, c, h1, h2, h3, h4, h5⟩ := h
  exact ⟨p, c, h1, h2, h3, h4, h5.mono hb hs hR⟩
theorem InsR.below {w w' : World} {cs : List Value} {x : InsL} (h : InsR w cs x) (hb : Below w.heap.size w w') : InsR w' cs x := by
  obtain ⟨v, h0, h1, h2, h3, h4, h5, h6⟩ := h
  exact ⟨v, h0, h1, h2, h3, h4, h5, h6.mono hb (by omega) fun _ _ h => h⟩
theorem PhiR.below {w w' : World} {cs : List Value} {x : PhiL} (h : PhiR w cs x) (hb : Below w.heap.size w w') : PhiR w' cs x := by
  obtain ⟨v, h0, h1, h6⟩ := h
  exact ⟨v, h0, h1, h6.mono hb (by omega) fun _ _ h => h⟩
theorem BlkR.below {w w' : World} {cs : List Value} {x : BlkL} (h : BlkR w cs x) (hb : Below w.heap.size w w') : BlkR w' cs x := by
  obtain ⟨v1, v2, v3, h0, h1, h2, h3, h4, h5⟩ := h
  exact ⟨v1, v2, v3, h0, h1, h2, h3.mono hb (by omega) fun _ _ h => h.below hb, h4.mono hb (by omega) fun _ _ h => h.below hb, h5.mono hb (by omega) fun _ _ h => h⟩
theorem FunR.below {w w' : World} {cs : List Value} {x : FunL} (h : FunR w cs x) (hb : Below w.heap.size w w') : FunR w' cs x := by
  obtain ⟨v, h0, h1, h2, h3, h4⟩ := h
  exact ⟨v, h0, h1, h2, h3, h4.mono hb (by omega) fun _ _ h => h.below hb⟩
theorem GloR.below {w w' : World} {cs : List Value} {x : GloL} (h : GloR w cs x) (hb : Below w.heap.size w w') : GloR w' cs x := by
  obtain ⟨v, h0, h1, h2, h3⟩ := h
  exact ⟨v, h0, h1, h2, h3.mono hb (by omega) fun _ _ h => h⟩

theorem glosMono {w w' : World} {p : Option Addr} {xs : List GloL} (h : SliceAt w 3 (GloR w) p xs) (hb : Below w.heap.size w w') : SliceAt w' 3 (GloR w') p xs := h.mono hb (by omega) fun _ _ h => h.below hb
theorem funsMono {w w' : World} {p : Option Addr} {xs : List FunL} (h : SliceAt w 4 (FunR w) p xs) (hb : Below w.heap.size w w') : SliceAt w' 4 (FunR w') p xs := h.mono hb (by omega) fun _ _ h => h.below hb
theorem blksMono {w w' : World} {p : Option Addr} {xs : List BlkL} (h : SliceAt w 6 (BlkR w) p xs) (hb : Below w.heap.size w w') : SliceAt w' 6 (BlkR w') p xs := h.mono hb (by omega) fun _ _ h => h.below hb
theorem SlF.out {α : Type} {w : World} {size bytes : Nat} {R : List Value → α → Prop} {v : Value} {xs : List α} (h : SlF w size bytes R v xs) : ∃ p c, v = .slice p xs.length c ∧ xs.length * bytes ≤ 140737488351232 ∧ SliceAt w size R p xs := by
  obtain ⟨p, c, h1, _, _, h4, h5⟩ := h
  exact ⟨p, c, h1, by unfold reachBytes at h4; exact h4, h5⟩

theorem intGet {w w' : World} {p : Option Addr} {xs : List Int} (h : SliceAt w 1 IntR p xs) (hb : Below w.heap.size w w') {i : Nat} (hi : i < xs.length) :
    ∃ b o, p = some ⟨b, o, none⟩ ∧ w'.cell? ⟨b, o + i, none⟩ = some (.int .i64 xs[i]) ∧ I64 xs[i] := by
  rcases h with rfl | ⟨b, o, hp, h⟩
  · simp at hi
  · obtain ⟨cs, _, hc, ⟨rfl, hw⟩⟩ := h i hi
    have h0 := hc 0 (by omega)
    simp only [Nat.mul_one, Nat.add_zero, List.getElem?_cons_zero] at h0
    exact ⟨b, o, hp, (hb.cell (p := ⟨b, o + i, none⟩) (lt_of_cell h0)).trans h0, hw⟩
theorem valGet {w w' : World} {p : Option Addr} {xs : List (Bool × Int)} (h : SliceAt w 2 ValR p xs) (hb : Below w.heap.size w w') {i : Nat} (hi : i < xs.length) :
    ∃ b o, p = some ⟨b, o, none⟩ ∧ w'.cell? ⟨b, o + i * 2, none⟩ = some (.bool xs[i].1) ∧ w'.cell? ⟨b, o + i * 2 + 1, none⟩ = some (.int .i64 xs[i].2) ∧ I64 xs[i].2 := by
  rcases h with rfl | ⟨b, o, hp, h⟩
  · simp at hi
  · obtain ⟨cs, _, hc, ⟨rfl, hw⟩⟩ := h i hi
    have h0 : w.cell? ⟨b, o + i * 2, none⟩ = some (.bool xs[i].1) := hc 0 (by omega)
    have h1 : w.cell? ⟨b, o + i * 2 + 1, none⟩ = some (.int .i64 xs[i].2) := hc 1 (by omega)
    have hl := lt_of_cell h0
    exact ⟨b, o, hp, (hb.cell (p := ⟨b, _, none⟩) hl).trans h0, (hb.cell (p := ⟨b, _, none⟩) hl).trans h1, hw⟩
theorem phiGet {w w' : World} {p : Option Addr} {xs : List PhiL} (h : SliceAt w 2 (PhiR w) p xs) (hb : Below w.heap.size w w') {i : Nat} (hi : i < xs.length) :
    ∃ b o q c, p = some ⟨b, o, none⟩ ∧ w'.cell? ⟨b, o + i * 2, none⟩ = some (.int .i64 xs[i].dst) ∧ w'.cell? ⟨b, o + i * 2 + 1, none⟩ = some (.slice q xs[i].src.length c) ∧ I64 xs[i].dst ∧ xs[i].src.length * 16 ≤ 140737488351232 ∧ SliceAt w' 2 ValR q xs[i].src := by
  rcases h with rfl | ⟨b, o, hp, h⟩
  · simp at hi
  · obtain ⟨cs, _, hc, hr⟩ := h i hi
    obtain ⟨v, rfl, hw, hs⟩ := hr
    obtain ⟨q, c, rfl, hl2, hs2⟩ := hs.out
    have h0 : w.cell? ⟨b, o + i * 2, none⟩ = some (.int .i64 xs[i].dst) := hc 0 (by omega)
    have h1 : w.cell? ⟨b, o + i * 2 + 1, none⟩ = some (.slice q xs[i].src.length c) := hc 1 (by omega)
    have hl := lt_of_cell h0
    exact ⟨b, o, q, c, hp, (hb.cell (p := ⟨b, _, none⟩) hl).trans h0, (hb.cell (p := ⟨b, _, none⟩) hl).trans h1, hw, hl2, hs2.mono hb (by omega) fun _ _ h => h⟩
theorem insGet {w w' : World} {p : Option Addr} {xs : List InsL} (h : SliceAt w 8 (InsR w) p xs) (hb : Below w.heap.size w w') {i : Nat} (hi : i < xs.length) :
    ∃ b o q c, p = some ⟨b, o, none⟩ ∧ w'.cell? ⟨b, o + i * 8, none⟩ = some (.int .i64 xs[i].op) ∧ w'.cell? ⟨b, o + i * 8 + 1, none⟩ = some (.int .i64 xs[i].dst) ∧ w'.cell? ⟨b, o + i * 8 + 2, none⟩ = some (.bool xs[i].ar) ∧ w'.cell? ⟨b, o + i * 8 + 3, none⟩ = some (.int .i64 xs[i].an) ∧ w'.cell? ⟨b, o + i * 8 + 4, none⟩ = some (.bool xs[i].br) ∧ w'.cell? ⟨b, o + i * 8 + 5, none⟩ = some (.int .i64 xs[i].bn) ∧ w'.cell? ⟨b, o + i * 8 + 6, none⟩ = some (.int .i64 xs[i].fn) ∧ w'.cell? ⟨b, o + i * 8 + 7, none⟩ = some (.slice q xs[i].args.length c) ∧ I64 xs[i].op ∧ I64 xs[i].dst ∧ I64 xs[i].an ∧ I64 xs[i].bn ∧ I64 xs[i].fn ∧ xs[i].args.length * 16 ≤ 140737488351232 ∧ SliceAt w' 2 ValR q xs[i].args := by
  rcases h with rfl | ⟨b, o, hp, h⟩
  · simp at hi
  · obtain ⟨cs, _, hc, hr⟩ := h i hi
    obtain ⟨v, rfl, w1, w2, w3, w4, w5, hs⟩ := hr
    obtain ⟨q, c, rfl, hl2, hs2⟩ := hs.out
    have h0 : w.cell? ⟨b, o + i * 8, none⟩ = some (.int .i64 xs[i].op) := hc 0 (by omega)
    have hl := lt_of_cell h0
    have g : ∀ j, j < 8 → w'.cell? ⟨b, o + i * 8 + j, none⟩ = w.cell? ⟨b, o + i * 8 + j, none⟩ := fun j _ => hb.cell (p := ⟨b, _, none⟩) hl
    exact ⟨b, o, q, c, hp, (g 0 (by omega)).trans h0, (g 1 (by omega)).trans (hc 1 (by omega)), (g 2 (by omega)).trans (hc 2 (by omega)), (g 3 (by omega)).trans (hc 3 (by omega)), (g 4 (by omega)).trans (hc 4 (by omega)), (g 5 (by omega)).trans (hc 5 (by omega)), (g 6 (by omega)).trans (hc 6 (by omega)), (g 7 (by omega)).trans (hc 7 (by omega)), w1, w2, w3, w4, w5, hl2, hs2.mono hb (by omega) fun _ _ h => h⟩
theorem blkGet {w w' : World} {p : Option Addr} {xs : List BlkL} (h : SliceAt w 6 (BlkR w) p xs) (hb : Below w.heap.size w w') {i : Nat} (hi : i < xs.length) :
    ∃ b o q1 c1 q2 c2 q3 c3, p = some ⟨b, o, none⟩ ∧ w'.cell? ⟨b, o + i * 6, none⟩ = some (.slice q1 xs[i].phis.length c1) ∧ w'.cell? ⟨b, o + i * 6 + 1, none⟩ = some (.slice q2 xs[i].list.length c2) ∧ w'.cell? ⟨b, o + i * 6 + 2, none⟩ = some (.int .i64 xs[i].fin.kind) ∧ w'.cell? ⟨b, o + i * 6 + 3, none⟩ = some (.bool xs[i].fin.onr) ∧ w'.cell? ⟨b, o + i * 6 + 4, none⟩ = some (.int .i64 xs[i].fin.onn) ∧ w'.cell? ⟨b, o + i * 6 + 5, none⟩ = some (.slice q3 xs[i].fin.to.length c3) ∧ I64 xs[i].fin.kind ∧ I64 xs[i].fin.onn ∧
      xs[i].phis.length * 32 ≤ 140737488351232 ∧ xs[i].list.length * 80 ≤ 140737488351232 ∧ xs[i].fin.to.length * 8 ≤ 140737488351232 ∧ SliceAt w' 2 (PhiR w') q1 xs[i].phis ∧ SliceAt w' 8 (InsR w') q2 xs[i].list ∧ SliceAt w' 1 IntR q3 xs[i].fin.to := by
  rcases h with rfl | ⟨b, o, hp, h⟩
  · simp at hi
  · obtain ⟨cs, _, hc, hr⟩ := h i hi
    obtain ⟨v1, v2, v3, rfl, w1, w2, hs1, hs2, hs3⟩ := hr
    obtain ⟨q1, c1, rfl, l1, t1⟩ := hs1.out
    obtain ⟨q2, c2, rfl, l2, t2⟩ := hs2.out
    obtain ⟨q3, c3, rfl, l3, t3⟩ := hs3.out
    have h0 : w.cell? ⟨b, o + i * 6, none⟩ = some (.slice q1 xs[i].phis.length c1) := hc 0 (by omega)
    have hl := lt_of_cell h0
    have g : ∀ j, j < 6 → w'.cell? ⟨b, o + i * 6 + j, none⟩ = w.cell? ⟨b, o + i * 6 + j, none⟩ := fun j _ => hb.cell (p := ⟨b, _, none⟩) hl
    exact ⟨b, o, q1, c1, q2, c2, q3, c3, hp, (g 0 (by omega)).trans h0, (g 1 (by omega)).trans (hc 1 (by omega)), (g 2 (by omega)).trans (hc 2 (by omega)), (g 3 (by omega)).trans (hc 3 (by omega)), (g 4 (by omega)).trans (hc 4 (by omega)), (g 5 (by omega)).trans (hc 5 (by omega)), w1, w2, l1, l2, l3, t1.mono hb (by omega) fun _ _ h => h.below hb, t2.mono hb (by omega) fun _ _ h => h.below hb, t3.mono hb (by omega) fun _ _ h => h⟩
theorem funGet {w w' : World} {p : Option Addr} {xs : List FunL} (h : SliceAt w 4 (FunR w) p xs) (hb : Below w.heap.size w w') {i : Nat} (hi : i < xs.length) :
    ∃ b o q c, p = some ⟨b, o, none⟩ ∧ w'.cell? ⟨b, o + i * 4, none⟩ = some (.string xs[i].name) ∧ w'.cell? ⟨b, o + i * 4 + 1, none⟩ = some (.int .i64 xs[i].params) ∧ w'.cell? ⟨b, o + i * 4 + 2, none⟩ = some (.int .i64 xs[i].regs) ∧ w'.cell? ⟨b, o + i * 4 + 3, none⟩ = some (.slice q xs[i].blocks.length c) ∧
      xs[i].name.size ≤ 140737488351232 ∧ I64 xs[i].params ∧ I64 xs[i].regs ∧ xs[i].blocks.length * 96 ≤ 140737488351232 ∧ SliceAt w' 6 (BlkR w') q xs[i].blocks := by
  rcases h with rfl | ⟨b, o, hp, h⟩
  · simp at hi
  · obtain ⟨cs, _, hc, hr⟩ := h i hi
    obtain ⟨v, rfl, w0, w1, w2, hs⟩ := hr
    obtain ⟨q, c, rfl, hl2, hs2⟩ := hs.out
    have h0 : w.cell? ⟨b, o + i * 4, none⟩ = some (.string xs[i].name) := hc 0 (by omega)
    have hl := lt_of_cell h0
    have g : ∀ j, j < 4 → w'.cell? ⟨b, o + i * 4 + j, none⟩ = w.cell? ⟨b, o + i * 4 + j, none⟩ := fun j _ => hb.cell (p := ⟨b, _, none⟩) hl
    exact ⟨b, o, q, c, hp, (g 0 (by omega)).trans h0, (g 1 (by omega)).trans (hc 1 (by omega)), (g 2 (by omega)).trans (hc 2 (by omega)), (g 3 (by omega)).trans (hc 3 (by omega)), by unfold reachBytes at w0; omega, w1, w2, hl2, hs2.mono hb (by omega) fun _ _ h => h.below hb⟩
theorem gloGet {w w' : World} {p : Option Addr} {xs : List GloL} (h : SliceAt w 3 (GloR w) p xs) (hb : Below w.heap.size w w') {i : Nat} (hi : i < xs.length) :
    ∃ b o q c, p = some ⟨b, o, none⟩ ∧ w'.cell? ⟨b, o + i * 3, none⟩ = some (.string xs[i].name) ∧ w'.cell? ⟨b, o + i * 3 + 1, none⟩ = some (.int .i64 xs[i].size) ∧ w'.cell? ⟨b, o + i * 3 + 2, none⟩ = some (.slice q xs[i].init.length c) ∧
      xs[i].name.size ≤ 140737488351232 ∧ I64 xs[i].size ∧ xs[i].init.length * 8 ≤ 140737488351232 ∧ SliceAt w' 1 IntR q xs[i].init := by
  rcases h with rfl | ⟨b, o, hp, h⟩
  · simp at hi
  · obtain ⟨cs, _, hc, hr⟩ := h i hi
    obtain ⟨v, rfl, w0, w1, hs⟩ := hr
    obtain ⟨q, c, rfl, hl2, hs2⟩ := hs.out
    have h0 : w.cell? ⟨b, o + i * 3, none⟩ = some (.string xs[i].name) := hc 0 (by omega)
    have hl := lt_of_cell h0
    have g : ∀ j, j < 3 → w'.cell? ⟨b, o + i * 3 + j, none⟩ = w.cell? ⟨b, o + i * 3 + j, none⟩ := fun j _ => hb.cell (p := ⟨b, _, none⟩) hl
    exact ⟨b, o, q, c, hp, (g 0 (by omega)).trans h0, (g 1 (by omega)).trans (hc 1 (by omega)), (g 2 (by omega)).trans (hc 2 (by omega)), by unfold reachBytes at w0; omega, w1, hl2, hs2.mono hb (by omega) fun _ _ h => h⟩
end Go.Proofs.YtdjamkinijhjoaaDoor
