/-
  Plain: the simplest form of an instruction, as a function of its parts.
-/
import Derived.Test.YtlalmbklhmpngaaDoorBSoA
namespace Go.Proofs.YtlalmbklhmpngaaDoor
open Go.RowKit

/-- what simple.fixed has -/
def fixI (op n dst an fn : Int) (ar : Bool) (ap : Option Addr) (al ac : Nat) : Inst :=
  if n = 0 ∧ (op = 2 ∨ op = 8 ∨ op = 9) ∨ n = 1 ∧ (op = 4 ∨ op = 5) ∨ n = -1 ∧ op = 7 ∨ n % 64 = 0 ∧ (op = 10 ∨ op = 11) then one1 1 dst ar an
  else if n = 0 ∧ (op = 4 ∨ op = 7) ∨ (n = 1 ∨ n = -1) ∧ op = 6 then one1 1 dst false 0
  else if n = -1 ∧ op = 8 then one1 1 dst false (-1)
  else if n = -1 ∧ (op = 4 ∨ op = 5) then one1 16 dst ar an
  else if n = -1 ∧ op = 9 then one1 17 dst ar an
  else ⟨op, dst, ar, an, false, n, fn, ap, al, ac⟩

/-- what simple.led has -/
def ledI (op n dst bn fn : Int) (ap : Option Addr) (al ac : Nat) : Inst :=
  if op = 3 ∧ n = 0 then one1 16 dst true bn
  else if op = 10 ∧ n = 0 ∨ op = 11 ∧ (n = 0 ∨ n = -1) then one1 1 dst false n
  else ⟨op, dst, false, n, true, bn, fn, ap, al, ac⟩

/-- what simple.alike has -/
def aliI (op dst n fn : Int) (ap : Option Addr) (al ac : Nat) : Inst :=
  if op = 3 ∨ op = 9 ∨ op = 13 ∨ op = 14 then one1 1 dst false 0
  else if op = 12 ∨ op = 15 then one1 1 dst false 1
  else if op = 7 ∨ op = 8 then one1 1 dst true n
  else ⟨op, dst, true, n, true, n, fn, ap, al, ac⟩

/-- the simplest form -/
def oneI (op dst an bn fn : Int) (ar br : Bool) (ap : Option Addr) (al ac : Nat) : Inst :=
  if op ≤ 1 ∨ 17 < op then ⟨op, dst, ar, an, br, bn, fn, ap, al, ac⟩
  else if 16 ≤ op then (if ar then ⟨op, dst, ar, an, br, bn, fn, ap, al, ac⟩ else one1 1 dst false (twoL op an bn).1)
  else if ar = false ∧ br = false then (if (twoL op an bn).2 then one1 1 dst false (twoL op an bn).1 else ⟨op, dst, ar, an, br, bn, fn, ap, al, ac⟩)
  else if ar = false ∧ turnB op = true then fixI op an dst bn fn true ap al ac
  else if op = 3 ∧ br = false then fixI 2 (wrap64 (-bn)) dst an 0 true none 0 0
  else if br = false then fixI op bn dst an fn true ap al ac
  else if ar = false then ledI op an dst bn fn ap al ac
  else if an = bn then aliI op dst an fn ap al ac
  else ⟨op, dst, ar, an, br, bn, fn, ap, al, ac⟩

end Go.Proofs.YtlalmbklhmpngaaDoor
