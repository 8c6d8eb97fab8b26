/-
  Plain: intervals of numbers: what an instruction makes of two of them, and those of all registers of a function, round by round.
  Plain: the rounds of the intervals of a function: they end, and what they leave.
-/
import Derived.Test.YtdjamkinijhjoaaDoorJDatC
namespace Go.Proofs.YtdjamkinijhjoaaDoor
open Go.RowKit

structure Spn where
 lo : Int
 hi : Int
 has : Bool
theorem Spn.ext' {a b : Spn} (h1 : a.lo = b.lo) (h2 : a.hi = b.hi) (h3 : a.has = b.has) : a = b := by
 cases a; cases b; simp at h1 h2 h3; subst h1 h2 h3; rfl
def minI : Int := -9223372036854775808
def maxI : Int := 9223372036854775807
def noS' : Spn := ⟨0, 0, false⟩
def allS : Spn := ⟨minI, maxI, true⟩
def ofS (l h : Int) : Spn := ⟨l, h, true⟩
def eqS (a b : Spn) : Bool := a.lo == b.lo && a.hi == b.hi && a.has == b.has
theorem eqS_iff {a b : Spn} : eqS a b = true ↔ a = b := by
 unfold eqS
 constructor
 ·intro h
  simp only [Bool.and_eq_true, beq_iff_eq] at h
  exact Spn.ext' h.1.1 h.1.2 h.2
 ·rintro rfl; simp
def joinS (a b : Spn) : Spn := if a.has = false then b else if b.has = false then a else ofS (min a.lo b.lo) (max a.hi b.hi)
def oneS (a : Spn) : Bool := a.has && a.lo == a.hi
def i64B (n : Int) : Bool := decide (minI ≤ n ∧ n ≤ maxI)
def overS : List Int → Spn → Spn
 | [], s => s
 | n :: l, s => if i64B n = true then overS l (joinS s (ofS n n)) else allS
def sureS (yes no : Bool) : Spn := if yes = true then ofS 1 1 else if no = true then ofS 0 0 else ofS 0 1
def lenBt (n : Int) : Nat := if n ≤ 0 then 0 else n.toNat.log2 + 1
def maskS (n : Int) : Int := 2 ^ lenBt n - 1
def divS (op : Int) (x y : Spn) : Spn :=
 if y.lo < 1 then allS
 else if op = 5 ∧ y.lo = y.hi then ofS (x.lo.tdiv y.lo) (x.hi.tdiv y.lo)
 else if op = 5 then ofS (min x.lo 0) (max x.hi 0)
 else if 0 ≤ x.lo then ofS 0 (min x.hi (y.hi - 1))
 else if x.hi ≤ 0 then ofS (max x.lo (1 - y.hi)) 0
 else ofS (max x.lo (1 - y.hi)) (min x.hi (y.hi - 1))
def logS (op : Int) (x y : Spn) : Spn :=
 if op = 7 then
  if 0 ≤ x.lo ∧ 0 ≤ y.lo then ofS 0 (min x.hi y.hi) else if 0 ≤ x.lo then ofS 0 x.hi else if 0 ≤ y.lo then ofS 0 y.hi else allS
 else if x.lo < 0 ∨ y.lo < 0 then allS
 else if op = 8 then ofS (max x.lo y.lo) (maskS (max x.hi y.hi))
 else ofS 0 (maskS (max x.hi y.hi))
def shfS (op : Int) (x y : Spn) : Spn :=
 if op = 10 then (if x.lo = x.hi ∧ y.lo = y.hi then ofS (twoL 10 x.lo y.lo).1 (twoL 10 x.lo y.lo).1 else allS)
 else if y.lo = y.hi then ofS (twoL 11 x.lo y.lo).1 (twoL 11 x.hi y.lo).1
 else ofS (min x.lo 0) (max x.hi (-1))
def apartB (x y : Spn) : Bool := decide (x.hi < y.lo ∨ y.hi < x.lo)
def sameSp (x y : Spn) : Bool := decide (x.lo = x.hi ∧ y.lo = y.hi ∧ x.lo = y.lo)
def tstS (op : Int) (x y : Spn) : Spn :=
 if op = 12 then sureS (sameSp x y) (apartB x y)
 else if op = 13 then sureS (apartB x y) (sameSp x y)
 else if op = 14 then sureS (decide (x.hi < y.lo)) (decide (y.hi ≤ x.lo))
 else sureS (decide (x.hi ≤ y.lo)) (decide (y.hi < x.lo))
def makS (op : Int) (x y : Spn) : Spn :=
 if 17 < op then allS
 else if x.has = false ∨ (2 ≤ op ∧ op ≤ 15) ∧ y.has = false then noS'
 else if op = 1 then x
 else if op = 2 then overS [x.lo + y.lo, x.hi + y.hi] noS'
 else if op = 3 then overS [x.lo - y.hi, x.hi - y.lo] noS'
 else if op = 4 then overS [x.lo * y.lo, x.lo * y.hi, x.hi * y.lo, x.hi * y.hi] noS'
 else if op = 5 ∨ op = 6 then divS op x y
 else if op = 7 ∨ op = 8 ∨ op = 9 then logS op x y
 else if op = 10 ∨ op = 11 then shfS op x y
 else if op = 16 then (if x.lo = minI then allS else ofS (-x.hi) (-x.lo))
 else if op = 17 then ofS (-1 - x.hi) (-1 - x.lo)
 else tstS op x y

structure SpOk (s : Spn) : Prop where
 lo : I64 s.lo
 hi : I64 s.hi
 le : s.has = true → s.lo ≤ s.hi
 no : s.has = false → s = noS'
theorem SpOk.none : SpOk noS' := ⟨by unfold I64 noS'; simp, by unfold I64 noS'; simp, by simp [noS'], fun _ => rfl⟩
theorem SpOk.all : SpOk allS := ⟨by unfold I64 allS minI; simp, by unfold I64 allS maxI; simp, by simp [allS, minI, maxI], by simp [allS]⟩
theorem SpOk.of {l h : Int} (h1 : -9223372036854775808 ≤ l) (h2 : l ≤ h) (h3 : h ≤ 9223372036854775807) : SpOk (ofS l h) :=
 ⟨by unfold I64; show _ ≤ l ∧ l ≤ _; omega, by unfold I64; show _ ≤ h ∧ h ≤ _; omega, fun _ => h2, by simp [ofS]⟩
theorem joinS_has {a b : Spn} (h1 : a.has = true) (h2 : b.has = true) : joinS a b = ofS (min a.lo b.lo) (max a.hi b.hi) := by
 unfold joinS; simp [h1, h2]
theorem joinS_left {a b : Spn} (h1 : a.has = false) : joinS a b = b := by unfold joinS; simp [h1]
theorem joinS_right {a b : Spn} (h1 : a.has = true) (h2 : b.has = false) : joinS a b = a := by unfold joinS; simp [h1, h2]
theorem SpOk.join {a b : Spn} (ha : SpOk a) (hb : SpOk b) : SpOk (joinS a b) := by
 cases h1 : a.has
 ·rw [joinS_left h1]; exact hb
 ·cases h2 : b.has
  ·rw [joinS_right h1 h2]; exact ha
  ·rw [joinS_has h1 h2]
   have := ha.le h1
   have := hb.le h2
   have := ha.lo
   have := hb.lo
   have := ha.hi
   have := hb.hi
   unfold I64 at *
   exact .of (by omega) (by omega) (by omega)
theorem joinS_wide {a b : Spn} (_ha : SpOk a) (h : a.has = true) : (joinS a b).has = true ∧ (joinS a b).lo ≤ a.lo ∧ a.hi ≤ (joinS a b).hi := by
 cases h2 : b.has
 ·rw [joinS_right h h2]; exact ⟨h, Int.le_refl _, Int.le_refl _⟩
 ·rw [joinS_has h h2]
  exact ⟨rfl, by show min _ _ ≤ _; omega, by show _ ≤ max _ _; omega⟩

def widS (turn : Nat) (old s : Spn) : Spn :=
 if 2 < turn ∧ old.has = true then ⟨if s.lo < old.lo then minI else s.lo, if old.hi < s.hi then maxI else s.hi, s.has⟩ else s
def chgS (l : Nat → Spn) (d : Nat) (s : Spn) : Bool := !eqS (joinS (l d) s) (l d)
def newS (turn : Nat) (old s : Spn) : Spn := if eqS (joinS old s) old = true then old else widS turn old (joinS old s)
def setS (l : Nat → Spn) (d : Nat) (s : Spn) : Nat → Spn := fun r => if r = d then s else l r
theorem setS_self {l : Nat → Spn} {d : Nat} {s : Spn} : setS l d s d = s := by unfold setS; simp
theorem setS_other {l : Nat → Spn} {d r : Nat} {s : Spn} (h : r ≠ d) : setS l d s r = l r := by unfold setS; simp [h]
theorem setS_same {l : Nat → Spn} {d : Nat} : setS l d (l d) = l := by
 funext r; unfold setS; split
 ·next h => rw [h]
 ·rfl
def putSp (turn : Nat) (l : Nat → Spn) (d : Nat) (s : Spn) : Nat → Spn := setS l d (newS turn (l d) s)

theorem SpOk.wid {turn : Nat} {a b : Spn} (ha : SpOk a) (hb : SpOk b) : SpOk (widS turn a (joinS a b)) := by
 have hj := ha.join hb
 unfold widS
 split
 ·next h =>
  have hw := joinS_wide (b := b) ha h.2
  have := hj.le hw.1
  have := hj.lo
  have := hj.hi
  unfold I64 at *
  refine ⟨?_, ?_, fun _ => ?_, fun hn => ?_⟩
  ·show I64 (if _ then _ else _)
   unfold I64 minI; split <;> omega
  ·show I64 (if _ then _ else _)
   unfold I64 maxI; split <;> omega
  ·show (if _ then _ else _) ≤ (if _ then _ else _)
   unfold minI maxI; split <;> split <;> omega
  ·rw [show _ = (joinS a b).has from rfl, hw.1] at hn
   cases hn
 ·exact hj
theorem SpOk.new {turn : Nat} {a b : Spn} (ha : SpOk a) (hb : SpOk b) : SpOk (newS turn a b) := by
 unfold newS
 split
 ·exact ha
 ·exact ha.wid hb
theorem putSp_ok {turn : Nat} {l : Nat → Spn} {d : Nat} {s : Spn} (h : ∀ r, SpOk (l r)) (hs : SpOk s) : ∀ r, SpOk (putSp turn l d s r) := by
 intro r
 unfold putSp setS
 split
 ·exact (h d).new hs
 ·exact h r

def rkS (s : Spn) : Nat := if s.has = false then 3 else (if s.lo = minI then 0 else 1) + (if s.hi = maxI then 0 else 1)
theorem rkS_le (s : Spn) : rkS s ≤ 3 := by
 unfold rkS; split
 ·omega
 ·split <;> split <;> omega
theorem new_rank {turn : Nat} {a b : Spn} (h2 : 2 < turn) (ha : SpOk a) (hb : SpOk b) (hne : eqS (joinS a b) a = false) : rkS (newS turn a b) < rkS a := by
 unfold newS
 rw [if_neg (by simp [hne])]
 have hn : joinS a b ≠ a := fun e => by rw [eqS_iff.2 e] at hne; cases hne
 cases h1 : a.has
 ·have hbh : b.has = true := by
   cases h : b.has
   ·exact absurd (by rw [joinS_left h1, ha.no h1, hb.no h]) hn
   ·rfl
  unfold widS
  rw [if_neg (by simp [h1]), joinS_left h1]
  unfold rkS
  rw [if_neg (by simp [hbh]), if_pos h1]
  split <;> split <;> omega
 ·obtain ⟨w1, w2, w3⟩ := joinS_wide (b := b) ha h1
  have hlo := ha.lo
  have hhi := ha.hi
  have hjl := (ha.join hb).lo
  have hjh := (ha.join hb).hi
  unfold widS
  rw [if_pos ⟨h2, h1⟩]
  unfold rkS
  simp only [h1, w1, if_false, Bool.true_eq_false]
  unfold I64 at *
  have hor : (joinS a b).lo < a.lo ∨ a.hi < (joinS a b).hi := by
   rcases Int.lt_or_le (joinS a b).lo a.lo with h | h
   ·exact .inl h
   ·rcases Int.lt_or_le a.hi (joinS a b).hi with g | g
    ·exact .inr g
    ·exact absurd (Spn.ext' (by omega) (by omega) (by rw [w1, h1])) hn
  unfold minI maxI
  by_cases c1 : (joinS a b).lo < a.lo <;> by_cases c2 : a.hi < (joinS a b).hi <;> simp only [c1, c2, if_true, if_false]
  ·rw [if_neg (by omega), if_neg (by omega)]; omega
  ·rw [if_neg (show ¬ a.lo = -9223372036854775808 by omega)]
   have : (joinS a b).hi = a.hi := by omega
   rw [this]; split <;> omega
  ·rw [if_neg (show ¬ a.hi = 9223372036854775807 by omega)]
   have : (joinS a b).lo = a.lo := by omega
   rw [this]; split <;> omega
  ·omega
def rksS (n : Nat) (l : Nat → Spn) : Nat := ((List.range n).map fun r => rkS (l r)).sum
theorem rksS_succ (n : Nat) (l : Nat → Spn) : rksS (n + 1) l = rksS n l + rkS (l n) := by
 unfold rksS; rw [List.range_succ]; simp
theorem rksS_le (n : Nat) (l : Nat → Spn) : rksS n l ≤ 3 * n := by
 induction n with
 | zero => simp [rksS]
 | succ n ih => rw [rksS_succ]; have := rkS_le (l n); omega
theorem rksS_set {l : Nat → Spn} {d : Nat} {s : Spn} (hs : rkS s ≤ rkS (l d)) : ∀ n, rksS n (setS l d s) ≤ rksS n l ∧ (d < n → rkS s < rkS (l d) → rksS n (setS l d s) < rksS n l)
 | 0 => ⟨by simp [rksS], fun h => by omega⟩
 | n + 1 => by
  obtain ⟨h1, h2⟩ := rksS_set hs n
  rw [rksS_succ, rksS_succ]
  by_cases e : n = d
  ·subst e
   rw [setS_self]
   exact ⟨by omega, fun _ h => by omega⟩
  ·rw [setS_other e]
   exact ⟨by omega, fun h g => by have := h2 (by omega) g; omega⟩

inductive ItS where
 | phi (p : PhiL)
 | ins (i : InsL)
def vlS (l : Nat → Spn) (v : Bool × Int) : Spn := if v.1 = true then l v.2.toNat else ofS v.2 v.2
def phS (l : Nat → Spn) (src : List (Bool × Int)) : Spn := src.foldl (fun s v => joinS s (vlS l v)) noS'
def ItS.dst : ItS → Int
 | .phi p => p.dst
 | .ins i => i.dst
def ItS.made (l : Nat → Spn) : ItS → Spn
 | .phi p => phS l p.src
 | .ins i => makS i.op (vlS l (i.ar, i.an)) (vlS l (i.br, i.bn))
def itS (turn : Nat) (s : (Nat → Spn) × Bool) (x : ItS) : (Nat → Spn) × Bool :=
 if x.dst < 0 then s else (putSp turn s.1 x.dst.toNat (x.made s.1), s.2 || chgS s.1 x.dst.toNat (x.made s.1))
def itsB (b : BlkL) : List ItS := b.phis.map .phi ++ b.list.map .ins
def itsF (f : FunL) : List ItS := f.blocks.flatMap itsB
def rndS (f : FunL) (turn : Nat) (l : Nat → Spn) : (Nat → Spn) × Bool := (itsF f).foldl (itS turn) (l, false)
def spnN (f : FunL) : Nat → Nat → (Nat → Spn) → Nat → Spn
 | 0, _, l => l
 | k + 1, t, l => if (rndS f t l).2 = true then spnN f k (t + 1) (rndS f t l).1 else (rndS f t l).1
def initS (f : FunL) (r : Nat) : Spn := if (r : Int) < f.params then allS else noS'
def msS (n t : Nat) (l : Nat → Spn) : Nat := (3 - t) * (3 * n + 2) + rksS n l + 1
def spnF (f : FunL) : Nat → Spn := spnN f (msS f.regs.toNat 0 (initS f) + 1) 0 (initS f)

def ItOk (n : Nat) : ItS → Prop
 | .phi p => p.dst < n ∧ ∀ v ∈ p.src, I64 v.2 ∧ (v.1 = true → 0 ≤ v.2 ∧ v.2 < n)
 | .ins i => i.dst < n ∧ 1 ≤ i.op ∧ i.op ≤ 22 ∧ I64 i.an ∧ I64 i.bn ∧ (i.ar = true → 0 ≤ i.an ∧ i.an < n) ∧ (i.br = true → 0 ≤ i.bn ∧ i.bn < n)
theorem ItOk.dst {n : Nat} : ∀ {x : ItS}, ItOk n x → x.dst < n
 | .phi _, h => h.1
 | .ins _, h => h.1

theorem tdiv_bd {a b m : Int} (hb : 1 ≤ b) (hm : 0 ≤ m) (h1 : -m - 1 ≤ a) (h2 : a ≤ m) : -m - 1 ≤ a.tdiv b ∧ a.tdiv b ≤ m := by
 rcases Int.lt_or_le a 0 with h | h
 ·have e : a.tdiv b = -((-a).tdiv b) := by rw [Int.neg_tdiv]; omega
  have h3 : 0 ≤ (-a).tdiv b := Int.tdiv_nonneg (by omega) (by omega)
  have h4 : (-a).tdiv b ≤ -a := by
   rw [Int.tdiv_eq_ediv_of_nonneg (by omega)]
   exact Int.ediv_le_self _ (by omega)
  omega
 ·have h3 : 0 ≤ a.tdiv b := Int.tdiv_nonneg h (by omega)
  have h4 : a.tdiv b ≤ a := by
   rw [Int.tdiv_eq_ediv_of_nonneg h]
   exact Int.ediv_le_self _ h
  omega
theorem tdiv_mono {a b c : Int} (hc : 1 ≤ c) (h : a ≤ b) : a.tdiv c ≤ b.tdiv c := by
 rcases Int.lt_or_le a 0 with h1 | h1
 ·have ea : a.tdiv c = -((-a).tdiv c) := by rw [Int.neg_tdiv]; omega
  rcases Int.lt_or_le b 0 with h2 | h2
  ·have eb : b.tdiv c = -((-b).tdiv c) := by rw [Int.neg_tdiv]; omega
   have : (-b).tdiv c ≤ (-a).tdiv c := by
    rw [Int.tdiv_eq_ediv_of_nonneg (by omega), Int.tdiv_eq_ediv_of_nonneg (by omega)]
    exact Int.ediv_le_ediv (by omega) (by omega)
   omega
  ·have h3 : 0 ≤ (-a).tdiv c := Int.tdiv_nonneg (by omega) (by omega)
   have h4 : 0 ≤ b.tdiv c := Int.tdiv_nonneg h2 (by omega)
   omega
 ·rw [Int.tdiv_eq_ediv_of_nonneg h1, Int.tdiv_eq_ediv_of_nonneg (by omega)]
  exact Int.ediv_le_ediv (by omega) h
theorem maskS_bd {n : Int} (h0 : 0 ≤ n) (h1 : n ≤ maxI) : n ≤ maskS n ∧ maskS n ≤ maxI := by
 unfold maskS lenBt
 split
 ·have : n = 0 := by omega
  subst this; unfold maxI; simp
 ·have hn : n.toNat ≠ 0 := by omega
  have h2 : n.toNat < 2 ^ (n.toNat.log2 + 1) := Nat.lt_log2_self
  have h3 : n.toNat.log2 < 63 := (Nat.log2_lt hn).2 (by unfold maxI at h1; omega)
  have h4 : 2 ^ (n.toNat.log2 + 1) ≤ 2 ^ 63 := Nat.pow_le_pow_right (by omega) (by omega)
  have h5 : ((2 : Int) ^ (n.toNat.log2 + 1)) = ((2 ^ (n.toNat.log2 + 1) : Nat) : Int) := by simp
  rw [h5]
  generalize 2 ^ (n.toNat.log2 + 1) = m at *
  unfold maxI
  omega
theorem SpOk.over : ∀ (l : List Int) {s : Spn}, SpOk s → SpOk (overS l s)
 | [], _, h => h
 | n :: l, s, h => by
  unfold overS
  split
  ·next g =>
   have g : minI ≤ n ∧ n ≤ maxI := by simpa [i64B] using g
   unfold minI maxI at g
   exact SpOk.over l (h.join (.of (by omega) (by omega) (by omega)))
  ·exact .all
theorem SpOk.sure (a b : Bool) : SpOk (sureS a b) := by
 unfold sureS
 split
 ·exact .of (by omega) (by omega) (by omega)
 ·split <;> exact .of (by omega) (by omega) (by omega)
theorem sh_11 (a b : Int) : (twoL 11 a b).1 = a / 2 ^ (b % 64).toNat := rfl
theorem sh_bd {a : Int} (k : Nat) (h1 : -9223372036854775808 ≤ a) (h2 : a ≤ 9223372036854775807) : -9223372036854775808 ≤ a / 2 ^ k ∧ a / 2 ^ k ≤ 9223372036854775807 := by
 have hp : (0 : Int) < 2 ^ k := by
  have : (0 : Nat) < 2 ^ k := Nat.pow_pos (by omega)
  have e : ((2 : Int) ^ k) = ((2 ^ k : Nat) : Int) := by simp
  rw [e]; omega
 constructor
 ·rw [Int.le_ediv_iff_mul_le hp]
  generalize (2 : Int) ^ k = p at *
  omega
 ·have h3 : a / 2 ^ k ≤ 9223372036854775807 / 2 ^ k := Int.ediv_le_ediv hp h2
  have h4 : (9223372036854775807 : Int) / 2 ^ k ≤ 9223372036854775807 := Int.ediv_le_self _ (by omega)
  omega
theorem sh_mono {a b : Int} (k : Nat) (h : a ≤ b) : a / 2 ^ k ≤ b / 2 ^ k := by
 have hp : (0 : Int) < 2 ^ k := by
  have : (0 : Nat) < 2 ^ k := Nat.pow_pos (by omega)
  have e : ((2 : Int) ^ k) = ((2 ^ k : Nat) : Int) := by simp
  rw [e]; omega
 exact Int.ediv_le_ediv hp h
theorem SpOk.mak {op : Int} {x y : Spn} (hx : SpOk x) (hy : SpOk y) (h1 : 1 ≤ op) : SpOk (makS op x y) := by
 unfold makS
 by_cases h17 : 17 < op
 ·rw [if_pos h17]; exact .all
 rw [if_neg h17]
 by_cases hn : x.has = false ∨ (2 ≤ op ∧ op ≤ 15) ∧ y.has = false
 ·rw [if_pos hn]; exact .none
 rw [if_neg hn]
 have hxh : x.has = true := by
  cases h : x.has
  ·exact absurd (.inl h) hn
  ·rfl
 have xle := hx.le hxh
 obtain ⟨x1, x2⟩ := hx.lo
 obtain ⟨x3, x4⟩ := hx.hi
 have hyh : 2 ≤ op ∧ op ≤ 15 → y.lo ≤ y.hi := fun h => hy.le (by
  cases g : y.has
  ·exact absurd (.inr ⟨h, g⟩) hn
  ·rfl)
 obtain ⟨y1, y2⟩ := hy.lo
 obtain ⟨y3, y4⟩ := hy.hi
 split
 ·exact hx
 split
 ·exact .over _ .none
 split
 ·exact .over _ .none
 split
 ·exact .over _ .none
 split
 ·have yle := hyh (by omega)
  unfold divS
  split
  ·exact .all
  split
  ·have a1 := tdiv_bd (a := x.lo) (b := y.lo) (m := 9223372036854775807) (by omega) (by omega) (by omega) (by omega)
   have a2 := tdiv_bd (a := x.hi) (b := y.lo) (m := 9223372036854775807) (by omega) (by omega) (by omega) (by omega)
   exact .of (by omega) (tdiv_mono (by omega) xle) (by omega)
  split
  ·exact .of (by omega) (by omega) (by omega)
  split
  ·exact .of (by omega) (by omega) (by omega)
  split
  ·exact .of (by omega) (by omega) (by omega)
  ·exact .of (by omega) (by omega) (by omega)
 split
 ·have yle := hyh (by omega)
  unfold logS
  split
  ·split
   ·exact .of (by omega) (by omega) (by omega)
   split
   ·exact .of (by omega) (by omega) (by omega)
   split
   ·exact .of (by omega) (by omega) (by omega)
   ·exact .all
  split
  ·exact .all
  have hm := maskS_bd (n := max x.hi y.hi) (by omega) (by unfold maxI; omega)
  unfold maxI at hm
  split
  ·exact .of (by omega) (by omega) (by omega)
  ·exact .of (by omega) (by omega) (by omega)
 split
 ·unfold shfS
  split
  ·split
   ·have : I64 (twoL 10 x.lo y.lo).1 := by
     show I64 (wrap64 _)
     unfold I64 wrap64; omega
    unfold I64 at this
    exact .of (by omega) (by omega) (by omega)
   ·exact .all
  split
  ·rw [sh_11, sh_11]
   have a1 := sh_bd (y.lo % 64).toNat x1 x2
   have a2 := sh_bd (y.lo % 64).toNat x3 x4
   exact .of (by omega) (sh_mono _ xle) (by omega)
  ·exact .of (by omega) (by omega) (by omega)
 split
 ·split
  ·exact .all
  ·unfold minI at *
   exact .of (by omega) (by omega) (by omega)
 split
 ·exact .of (by omega) (by omega) (by omega)
 ·unfold tstS
  split
  ·exact .sure _ _
  split
  ·exact .sure _ _
  split
  ·exact .sure _ _
  ·exact .sure _ _
end Go.Proofs.YtdjamkinijhjoaaDoor
namespace Go.Proofs.YtdjamkinijhjoaaDoor
open Go.RowKit

def OkS (l : Nat → Spn) : Prop := ∀ r, SpOk (l r)
theorem OkS.vl {l : Nat → Spn} (h : OkS l) {v : Bool × Int} (hv : I64 v.2) : SpOk (vlS l v) := by
 unfold vlS
 split
 ·exact h _
 ·unfold I64 at hv
  exact .of (by omega) (by omega) (by omega)
theorem OkS.phs {l : Nat → Spn} (h : OkS l) : ∀ (src : List (Bool × Int)) (s : Spn), (∀ v ∈ src, I64 v.2) → SpOk s → SpOk (src.foldl (fun s v => joinS s (vlS l v)) s)
 | [], _, _, hs => hs
 | v :: src, _s, hv, hs => h.phs src _ (fun x hx => hv x (List.mem_cons_of_mem _ hx)) (hs.join (h.vl (hv v List.mem_cons_self)))
theorem OkS.made {l : Nat → Spn} (h : OkS l) {n : Nat} : ∀ {x : ItS}, ItOk n x → SpOk (x.made l)
 | .phi p, hx => h.phs p.src _ (fun v hv => (hx.2 v hv).1) .none
 | .ins _i, hx => .mak (h.vl hx.2.2.2.1) (h.vl hx.2.2.2.2.1) hx.2.1
theorem OkS.it {turn n : Nat} {s : (Nat → Spn) × Bool} {x : ItS} (h : OkS s.1) (hx : ItOk n x) : OkS (itS turn s x).1 := by
 unfold itS
 split
 ·exact h
 ·exact putSp_ok h (h.made hx)
theorem newS_same {turn : Nat} {a b : Spn} (h : eqS (joinS a b) a = true) : newS turn a b = a := by unfold newS; rw [if_pos h]
structure StepS (n turn : Nat) (s s' : (Nat → Spn) × Bool) : Prop where
 ok : OkS s'.1
 flag : s'.2 = false → s.2 = false ∧ s'.1 = s.1
 le : 2 < turn → rksS n s'.1 ≤ rksS n s.1
 lt : 2 < turn → s.2 = false → s'.2 = true → rksS n s'.1 < rksS n s.1
theorem itS_step {turn n : Nat} {s : (Nat → Spn) × Bool} {x : ItS} (h : OkS s.1) (hx : ItOk n x) : StepS n turn s (itS turn s x) := by
 refine ⟨h.it hx, ?_, ?_, ?_⟩
 ·unfold itS
  split
  ·exact fun e => ⟨e, rfl⟩
  ·intro e
   have e : (s.2 || chgS s.1 x.dst.toNat (x.made s.1)) = false := e
   rw [Bool.or_eq_false_iff] at e
   refine ⟨e.1, ?_⟩
   have e2 : eqS (joinS (s.1 x.dst.toNat) (x.made s.1)) (s.1 x.dst.toNat) = true := by simpa [chgS] using e.2
   show putSp turn s.1 x.dst.toNat (x.made s.1) = s.1
   unfold putSp
   rw [newS_same e2, setS_same]
 ·intro h2
  unfold itS
  split
  ·exact Nat.le_refl _
  ·show rksS n (putSp turn s.1 x.dst.toNat (x.made s.1)) ≤ _
   unfold putSp
   refine (rksS_set ?_ n).1
   cases e : eqS (joinS (s.1 x.dst.toNat) (x.made s.1)) (s.1 x.dst.toNat)
   ·exact Nat.le_of_lt (new_rank h2 (h _) (h.made hx) e)
   ·rw [newS_same e]; exact Nat.le_refl _
 ·intro h2 h3
  unfold itS
  split
  ·intro h4; rw [h3] at h4; cases h4
  ·next hd =>
   intro h4
   have h4 : (s.2 || chgS s.1 x.dst.toNat (x.made s.1)) = true := h4
   rw [h3, Bool.false_or] at h4
   have e : eqS (joinS (s.1 x.dst.toNat) (x.made s.1)) (s.1 x.dst.toNat) = false := by simpa [chgS] using h4
   show rksS n (putSp turn s.1 x.dst.toNat (x.made s.1)) < _
   unfold putSp
   have hr := new_rank h2 (h x.dst.toNat) (h.made hx) e
   exact (rksS_set (Nat.le_of_lt hr) n).2 (by have := hx.dst; omega) hr
theorem StepS.trans {n turn : Nat} {a b c : (Nat → Spn) × Bool} (h : StepS n turn a b) (g : StepS n turn b c) : StepS n turn a c :=
 ⟨g.ok, fun e => by
  obtain ⟨e1, e2⟩ := g.flag e
  obtain ⟨e3, e4⟩ := h.flag e1
  exact ⟨e3, e2.trans e4⟩, fun t => Nat.le_trans (g.le t) (h.le t), fun t ha hc => by
  cases hb : b.2
  ·exact Nat.lt_of_lt_of_le (g.lt t hb hc) (h.le t)
  ·exact Nat.lt_of_le_of_lt (g.le t) (h.lt t ha hb)⟩
theorem fold_step {turn n : Nat} : ∀ (L : List ItS) {s : (Nat → Spn) × Bool}, OkS s.1 → (∀ x ∈ L, ItOk n x) → StepS n turn s (L.foldl (itS turn) s)
 | [], _, h, _ => ⟨h, fun e => ⟨e, rfl⟩, fun _ => Nat.le_refl _, fun _ a b => by rw [List.foldl_nil, a] at b; cases b⟩
 | x :: L, s, h, hL => by
  have h1 := itS_step (turn := turn) h (hL x List.mem_cons_self)
  exact h1.trans (fold_step L h1.ok fun y hy => hL y (List.mem_cons_of_mem _ hy))

def FunOk (f : FunL) : Prop := ∀ x ∈ itsF f, ItOk f.regs.toNat x
theorem rnd_step {f : FunL} (hf : FunOk f) (turn : Nat) {l : Nat → Spn} (h : OkS l) : StepS f.regs.toNat turn (l, false) (rndS f turn l) := fold_step (itsF f) h hf
theorem ms_fall {f : FunL} (hf : FunOk f) {t : Nat} {l : Nat → Spn} (h : OkS l) (hc : (rndS f t l).2 = true) : msS f.regs.toNat (t + 1) (rndS f t l).1 < msS f.regs.toNat t l := by
 have hs := rnd_step hf t h
 unfold msS
 by_cases h2 : 2 < t
 ·have := hs.lt h2 rfl hc
  have e1 : 3 - (t + 1) = 0 := by omega
  have e2 : 3 - t = 0 := by omega
  rw [e1, e2]
  have this : rksS f.regs.toNat (rndS f t l).1 < rksS f.regs.toNat l := this
  omega
 ·have h3 := rksS_le f.regs.toNat (rndS f t l).1
  obtain ⟨k, hk⟩ : ∃ k, 3 - t = k + 1 := ⟨2 - t, by omega⟩
  have e1 : 3 - (t + 1) = k := by omega
  rw [hk, e1, Nat.add_mul]
  omega
theorem OkS.init (f : FunL) : OkS (initS f) := fun r => by
 unfold initS
 split
 ·exact .all
 ·exact .none
structure LeftS (f : FunL) (t : Nat) (l : Nat → Spn) (k : Nat) : Prop where
 ok : OkS l
 fuel : msS f.regs.toNat t l < k
 same : spnN f k t l = spnF f
theorem LeftS.start (f : FunL) : LeftS f 0 (initS f) (msS f.regs.toNat 0 (initS f) + 1) := ⟨.init f, by omega, rfl⟩
theorem LeftS.next {f : FunL} (hf : FunOk f) {t : Nat} {l : Nat → Spn} {k : Nat} (h : LeftS f t l (k + 1)) (hc : (rndS f t l).2 = true) : LeftS f (t + 1) (rndS f t l).1 k :=
 ⟨(rnd_step hf t h.ok).ok, by have := ms_fall hf h.ok hc; have := h.fuel; omega, by
  have e := h.same
  unfold spnN at e
  rw [if_pos hc] at e
  exact e⟩
theorem LeftS.last {f : FunL} (hf : FunOk f) {t : Nat} {l : Nat → Spn} {k : Nat} (h : LeftS f t l (k + 1)) (hc : (rndS f t l).2 = false) : l = spnF f := by
 have e := h.same
 unfold spnN at e
 rw [if_neg (by simp [hc])] at e
 rw [← e]
 exact ((rnd_step hf t h.ok).flag hc).2.symm

theorem fold_calm {turn n : Nat} : ∀ (L : List ItS) {s : (Nat → Spn) × Bool}, OkS s.1 → (∀ x ∈ L, ItOk n x) → (L.foldl (itS turn) s).2 = false → ∀ x ∈ L, 0 ≤ x.dst → joinS (s.1 x.dst.toNat) (x.made s.1) = s.1 x.dst.toNat
 | [], _, _, _, _, x, hx, _ => by cases hx
 | y :: L, s, h, hL, hc, x, hx, hd => by
  have h1 := itS_step (turn := turn) h (hL y List.mem_cons_self)
  have h2 := fold_step (turn := turn) L h1.ok (fun z hz => hL z (List.mem_cons_of_mem _ hz))
  obtain ⟨c1, _⟩ := h2.flag hc
  obtain ⟨_, c3⟩ := h1.flag c1
  rcases List.mem_cons.1 hx with e | hx
  ·subst e
   unfold itS at c1
   rw [if_neg (by omega)] at c1
   have c1 : (s.2 || chgS s.1 x.dst.toNat (x.made s.1)) = false := c1
   rw [Bool.or_eq_false_iff] at c1
   exact eqS_iff.1 (by simpa [chgS] using c1.2)
  ·have := fold_calm L h1.ok (fun z hz => hL z (List.mem_cons_of_mem _ hz)) hc x hx hd
   rw [c3] at this
   exact this
theorem spnN_calm {f : FunL} (hf : FunOk f) : ∀ (k t : Nat) (l : Nat → Spn), OkS l → msS f.regs.toNat t l < k → OkS (spnN f k t l) ∧ ∃ t', (rndS f t' (spnN f k t l)).2 = false
 | 0, _, _, _, h => by omega
 | k + 1, t, l, h, hm => by
  unfold spnN
  cases hc : (rndS f t l).2
  ·rw [if_neg (by simp)]
   have hs := rnd_step hf t h
   refine ⟨hs.ok, t, ?_⟩
   rw [(hs.flag hc).2]
   exact hc
  ·rw [if_pos rfl]
   exact spnN_calm hf k (t + 1) _ (rnd_step hf t h).ok (by have := ms_fall hf h hc; omega)
theorem spnF_calm {f : FunL} (hf : FunOk f) : OkS (spnF f) ∧ ∀ x ∈ itsF f, 0 ≤ x.dst → joinS (spnF f x.dst.toNat) (x.made (spnF f)) = spnF f x.dst.toNat := by
 obtain ⟨h1, t, h2⟩ := spnN_calm hf (msS f.regs.toNat 0 (initS f) + 1) 0 (initS f) (.init f) (by omega)
 exact ⟨h1, fold_calm (itsF f) (s := (spnF f, false)) h1 hf h2⟩

theorem all_stays {turn : Nat} {b : Spn} (hb : SpOk b) : newS turn allS b = allS := by
 have e : joinS allS b = allS := by
  cases h : b.has
  ·exact joinS_right rfl h
  ·rw [joinS_has rfl h]
   have := hb.lo
   have := hb.hi
   unfold I64 at *
   exact Spn.ext' (by show min minI _ = minI; unfold minI; omega) (by show max maxI _ = maxI; unfold maxI; omega) rfl
 exact newS_same (eqS_iff.2 e)
theorem fold_all {turn n : Nat} {r : Nat} : ∀ (L : List ItS) {s : (Nat → Spn) × Bool}, OkS s.1 → (∀ x ∈ L, ItOk n x) → s.1 r = allS → (L.foldl (itS turn) s).1 r = allS
 | [], _, _, _, h => h
 | x :: L, s, h, hL, hr => by
  have hx := hL x List.mem_cons_self
  refine fold_all L (s := itS turn s x) (h.it hx) (fun y hy => hL y (List.mem_cons_of_mem _ hy)) ?_
  unfold itS
  split
  ·exact hr
  ·show putSp turn s.1 x.dst.toNat (x.made s.1) r = allS
   unfold putSp setS
   split
   ·next e => rw [← e, hr]; exact all_stays (h.made hx)
   ·exact hr
theorem spnN_all {f : FunL} (hf : FunOk f) {r : Nat} : ∀ (k t : Nat) (l : Nat → Spn), OkS l → l r = allS → spnN f k t l r = allS
 | 0, _, _, _, h => h
 | k + 1, t, l, h, hr => by
  have h1 : (rndS f t l).1 r = allS := fold_all (itsF f) (s := (l, false)) h hf hr
  unfold spnN
  split
  ·exact spnN_all hf k _ _ (rnd_step hf t h).ok h1
  ·exact h1
theorem spnF_params {f : FunL} (hf : FunOk f) {r : Nat} (h : (r : Int) < f.params) : spnF f r = allS :=
 spnN_all hf _ _ _ (.init f) (by unfold initS; rw [if_pos h])
theorem joinS_all {a : Spn} (ha : SpOk a) (h : joinS a allS = a) : a = allS := by
 cases h1 : a.has
 ·rw [joinS_left h1] at h; exact h.symm
 ·rw [joinS_has h1 rfl] at h
  have hl := congrArg Spn.lo h
  have hh := congrArg Spn.hi h
  have hl : min a.lo minI = a.lo := hl
  have hh : max a.hi maxI = a.hi := hh
  have := ha.lo
  have := ha.hi
  unfold I64 at *
  refine Spn.ext' ?_ ?_ h1
  ·show a.lo = minI
   unfold minI at *; omega
  ·show a.hi = maxI
   unfold maxI at *; omega
theorem spnF_outside {f : FunL} (hf : FunOk f) {i : InsL} (hi : ItS.ins i ∈ itsF f) (ho : 17 < i.op) (hd : 0 ≤ i.dst) : spnF f i.dst.toNat = allS := by
 obtain ⟨h1, h2⟩ := spnF_calm hf
 have h3 := h2 _ hi hd
 have e : (ItS.ins i).made (spnF f) = allS := by
  show makS _ _ _ = allS
  unfold makS
  rw [if_pos ho]
 rw [e] at h3
 exact joinS_all (h1 _) h3
end Go.Proofs.YtdjamkinijhjoaaDoor
