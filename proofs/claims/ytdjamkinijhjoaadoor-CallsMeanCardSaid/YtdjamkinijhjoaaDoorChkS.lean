/-
  Plain: what a unit is whose check tells no fault.
-/
import Derived.Test.YtdjamkinijhjoaaDoorChkR
namespace Go.Proofs.YtdjamkinijhjoaaDoor
open Go.RowKit

structure ChkOk (u : UniL) : Prop where
  ng : u.globals.length ≤ 10
  nf : u.funcs.length ≤ 10
  glo : ∀ j, j < u.globals.length → gloI u j = 0
  head : ∀ j, j < u.funcs.length → headI u j = 0
  body : ∀ j, j < u.funcs.length → bodyI u j = 0
  main : ∃ m, mainI u.funcs = some m ∧ parU u m ≤ 0

theorem firstAt_some {n : Nat} {g : Nat → Int} {r : Int × Int} (h : firstAt n g = some r) : r.1 ≠ 0 := by
  unfold firstAt at h
  rw [Option.map_eq_some_iff] at h
  obtain ⟨i, hi, rfl⟩ := h
  have := List.find?_some hi
  simpa using this

theorem chk_cases (u : UniL) : (chk u = (0, 0) ∧ ChkOk u) ∨ (chk u).1 ≠ 0 := by
  unfold chk chkO
  split
  · exact .inr (by simp)
  · rename_i hs
    cases hg : firstAt u.globals.length (gloI u) with
    | some r => exact .inr (by simpa using firstAt_some hg)
    | none =>
      simp only
      cases hh : firstAt u.funcs.length (headI u) with
      | some r => exact .inr (by simpa using firstAt_some hh)
      | none =>
        simp only
        cases hb : firstAt u.funcs.length (bodyI u) with
        | some r => exact .inr (by simpa using firstAt_some hb)
        | none =>
          simp only
          rw [mainAt_eq]
          cases hm : mainI u.funcs with
          | none => exact .inr (by simp)
          | some m =>
            simp only
            split
            · exact .inr (by simp)
            · rename_i hp
              exact .inl ⟨rfl, by omega, by omega, firstAt_all hg, firstAt_all hh, firstAt_all hb, m, hm, by omega⟩
theorem chk_ok {u : UniL} (h : (chk u).1 = 0) : chk u = (0, 0) ∧ ChkOk u := (chk_cases u).resolve_right (by simp [h])

theorem gloE_zero {names : List ByteArray} {words : Int} {g : GloL} (h : gloE names words g = 0) : 1 ≤ g.size ∧ g.size ≤ 200 ∧ g.init.length ≤ g.size ∧ words + g.size ≤ 200 := by
  unfold gloE at h
  split at h
  · cases h
  split at h
  · cases h
  split at h
  · cases h
  split at h
  · cases h
  split at h
  · cases h
  omega

/-- the words of the memory -/
def wordsU (u : UniL) : Int := wordsTo u u.globals.length
theorem ChkOk.words {u : UniL} (h : ChkOk u) : ∀ k, k ≤ u.globals.length → 0 ≤ wordsTo u k ∧ wordsTo u k ≤ 200
  | 0, _ => by simp [wordsTo]
  | k + 1, hk => by
    have ih := h.words k (by omega)
    have h1 := gloE_zero ((gloI_eq (by omega)).symm.trans (h.glo k (by omega)))
    rw [wordsTo_succ (by omega)]
    omega
theorem ChkOk.fn {u : UniL} (h : ChkOk u) {k : Nat} (hk : k < u.funcs.length) : (0 ≤ u.funcs[k].params ∧ u.funcs[k].params ≤ 6) ∧ (u.funcs[k].params ≤ u.funcs[k].regs ∧ u.funcs[k].regs ≤ 100) ∧ (1 ≤ u.funcs[k].blocks.length ∧ u.funcs[k].blocks.length ≤ 40) ∧ manyL u.funcs[k] ≤ 300 :=
  headE_zero ((headI_eq hk).symm.trans (h.head k hk))
end Go.Proofs.YtdjamkinijhjoaaDoor
