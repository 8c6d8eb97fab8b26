/-
  The contracts of turnerylaw5.pureMain.
-/
import Derived.Test.YtlalmbklhmpngaaDoorPurL
import Derived.WalkKit
import Derived.WalkSpells
import Derived.WalkLawsBesides
namespace Go.Proofs.YtlalmbklhmpngaaDoor
open Go.RowKit

/-- what main may do; below 0: the unit is not fine -/
def mainM (u : UniL) : Int := if (chk u).1 = 0 then maskI (maskB u ((mainI u.funcs).getD 0)) else -1
set_option maxRecDepth 100000 in
set_option maxHeartbeats 1000000 in
theorem pmain_bad {u : UniL} {gp fp : Option Addr} {gc fc : Nat} {w : World} (hUn : UnA u gp fp w) (h : (chk u).1 ≠ 0) :
    Calls Tryd.prog 32 #[.agg #[.slice gp u.globals.length gc, .slice fp u.funcs.length fc]] w fun e w' => e = .returned (.int .i64 (-1)) ∧ Below w.heap.size w w' := by
  have HUn := hidI hUn
  have HH := hidI h
  have hq : ((chk u).1 == (0 : Int)) = false := by rw [beq_eq_false_iff_ne]; exact h
  clear hUn h
  go_enter Tryd.func32, Tryd.ntmps32
  go_wp2_with fail
  refine (of_bad (HUn.out.mono (by repeat (first | with_reducible exact Below.refl _ _ | with_reducible exact HB3.out | with_reducible refine Below.drew ?_ | with_reducible refine below_drewN ?_ _ | with_reducible refine Below.setCell ?_ ?_ _ | with_reducible refine Below.alloc ?_ ?_ _ | with_reducible exact HB2.out | with_reducible exact HB1.out | with_reducible refine Below.trans ?_ (Below.mono hb3 ?_) | with_reducible refine Below.trans ?_ (Below.mono hb5 ?_) | with_reducible refine Below.trans ?_ (Below.mono hb4 ?_) | omega | (simp; omega) | simp))) HH.out).mono ?_
  rintro e w2 ⟨rfl, hb2⟩
  have HB1 : Hid (Below w.heap.size w w2) := Below.trans (by repeat (first | with_reducible exact Below.refl _ _ | with_reducible exact HB3.out | with_reducible refine Below.drew ?_ | with_reducible refine below_drewN ?_ _ | with_reducible refine Below.setCell ?_ ?_ _ | with_reducible refine Below.alloc ?_ ?_ _ | with_reducible exact HB2.out | with_reducible exact HB1.out | with_reducible refine Below.trans ?_ (Below.mono hb3 ?_) | with_reducible refine Below.trans ?_ (Below.mono hb5 ?_) | with_reducible refine Below.trans ?_ (Below.mono hb4 ?_) | omega | (simp; omega) | simp)) (hb2.mono (by first | (simp; done) | (simp; omega)))
  have hU2 := heap_below hb2 (k := w.heap.size) (by first | (simp; done) | (simp; omega)) (heap_here w _)
  obtain ⟨hcu, _⟩ := blk hU2
  have z0 := (Array.getElem?_eq_some_iff.1 hU2).1
  clear hb2 hU2
  go_wp2_with fail
  refine (mainOf_any u.funcs gp fp u.globals.length gc fc _ (by have := HUn.out.fl; omega) (funsMono HUn.out.fns (HB1.out.trans (by repeat (first | with_reducible exact Below.refl _ _ | with_reducible exact HB3.out | with_reducible refine Below.drew ?_ | with_reducible refine below_drewN ?_ _ | with_reducible refine Below.setCell ?_ ?_ _ | with_reducible refine Below.alloc ?_ ?_ _ | with_reducible exact HB2.out | with_reducible exact HB1.out | with_reducible refine Below.trans ?_ (Below.mono hb3 ?_) | with_reducible refine Below.trans ?_ (Below.mono hb5 ?_) | with_reducible refine Below.trans ?_ (Below.mono hb4 ?_) | omega | (simp; omega) | simp))))).mono ?_
  rintro e w3 ⟨rfl, hb3⟩
  have HB2 : Hid (Below w.heap.size w w3) := HB1.out.trans (Below.trans (by repeat (first | with_reducible exact Below.refl _ _ | with_reducible exact HB3.out | with_reducible refine Below.drew ?_ | with_reducible refine below_drewN ?_ _ | with_reducible refine Below.setCell ?_ ?_ _ | with_reducible refine Below.alloc ?_ ?_ _ | with_reducible exact HB2.out | with_reducible exact HB1.out | with_reducible refine Below.trans ?_ (Below.mono hb3 ?_) | with_reducible refine Below.trans ?_ (Below.mono hb5 ?_) | with_reducible refine Below.trans ?_ (Below.mono hb4 ?_) | omega | (simp; omega) | simp)) (hb3.mono (by first | (simp; done) | (simp; omega))))
  have hc3 := (blk (heap_below hb3 (k := w2.heap.size) (by first | (simp; done) | (simp; omega)) (heap_at (w := w2) (o := .cells #[.int .i64 (chk u).1, .int .i64 (chk u).2] 28) rfl))).1
  have z3 : w2.heap.size < w3.heap.size := by have := hb3.size; simp at this; omega
  have z4 := HB1.out.size
  clear hb3
  go_wp2_with fail
  go_ret
  exact ⟨rfl, by repeat (first | with_reducible exact Below.refl _ _ | with_reducible exact HB3.out | with_reducible refine Below.drew ?_ | with_reducible refine below_drewN ?_ _ | with_reducible refine Below.setCell ?_ ?_ _ | with_reducible refine Below.alloc ?_ ?_ _ | with_reducible exact HB2.out | with_reducible exact HB1.out | with_reducible refine Below.trans ?_ (Below.mono hb3 ?_) | with_reducible refine Below.trans ?_ (Below.mono hb5 ?_) | with_reducible refine Below.trans ?_ (Below.mono hb4 ?_) | omega | (simp; omega) | simp)⟩
set_option maxRecDepth 100000 in
set_option maxHeartbeats 1000000 in
theorem pmain_ok {u : UniL} {gp fp : Option Addr} {gc fc m : Nat} {w : World} (hUn : UnA u gp fp w) (h : (chk u).1 = 0) (hm : mainI u.funcs = some m) (hml : m < u.funcs.length) :
    Calls Tryd.prog 32 #[.agg #[.slice gp u.globals.length gc, .slice fp u.funcs.length fc]] w fun e w' => e = .returned (.int .i64 (maskI (maskB u m))) ∧ Below w.heap.size w w' := by
  have HUn := hidI hUn
  have HH := hidI h
  have hmo := fun W hb => mainOf_any u.funcs gp fp u.globals.length gc fc W (by have := hUn.fl; omega) (funsMono hUn.fns hb)
  rw [hm] at hmo
  have ho : optI (some m) = (m : Int) := rfl
  rw [ho] at hmo
  have HMo := hidI hmo
  clear hUn h hm hmo
  go_enter Tryd.func32, Tryd.ntmps32
  go_wp2_with fail
  refine (of_ok (HUn.out.mono (by repeat (first | with_reducible exact Below.refl _ _ | with_reducible exact HB3.out | with_reducible refine Below.drew ?_ | with_reducible refine below_drewN ?_ _ | with_reducible refine Below.setCell ?_ ?_ _ | with_reducible refine Below.alloc ?_ ?_ _ | with_reducible exact HB2.out | with_reducible exact HB1.out | with_reducible refine Below.trans ?_ (Below.mono hb3 ?_) | with_reducible refine Below.trans ?_ (Below.mono hb5 ?_) | with_reducible refine Below.trans ?_ (Below.mono hb4 ?_) | omega | (simp; omega) | simp))) HH.out).mono ?_
  rintro e w2 ⟨p, c, rfl, hS, hb2⟩
  have HB1 : Hid (Below w.heap.size w w2) := Below.trans (by repeat (first | with_reducible exact Below.refl _ _ | with_reducible exact HB3.out | with_reducible refine Below.drew ?_ | with_reducible refine below_drewN ?_ _ | with_reducible refine Below.setCell ?_ ?_ _ | with_reducible refine Below.alloc ?_ ?_ _ | with_reducible exact HB2.out | with_reducible exact HB1.out | with_reducible refine Below.trans ?_ (Below.mono hb3 ?_) | with_reducible refine Below.trans ?_ (Below.mono hb5 ?_) | with_reducible refine Below.trans ?_ (Below.mono hb4 ?_) | omega | (simp; omega) | simp)) (hb2.mono (by first | (simp; done) | (simp; omega)))
  have hU2 := heap_below hb2 (k := w.heap.size) (by first | (simp; done) | (simp; omega)) (heap_here w _)
  obtain ⟨hcu, _⟩ := blk hU2
  have z0 := (Array.getElem?_eq_some_iff.1 hU2).1
  have HS := hidI hS
  clear hb2 hU2 hS
  go_wp2_with fail
  refine (HMo.out _ (HB1.out.trans (by repeat (first | with_reducible exact Below.refl _ _ | with_reducible exact HB3.out | with_reducible refine Below.drew ?_ | with_reducible refine below_drewN ?_ _ | with_reducible refine Below.setCell ?_ ?_ _ | with_reducible refine Below.alloc ?_ ?_ _ | with_reducible exact HB2.out | with_reducible exact HB1.out | with_reducible refine Below.trans ?_ (Below.mono hb3 ?_) | with_reducible refine Below.trans ?_ (Below.mono hb5 ?_) | with_reducible refine Below.trans ?_ (Below.mono hb4 ?_) | omega | (simp; omega) | simp)))).mono ?_
  rintro e w3 ⟨rfl, hb3⟩
  have hb23 : Below w2.heap.size w2 w3 := Below.trans (by repeat (first | with_reducible exact Below.refl _ _ | with_reducible exact HB3.out | with_reducible refine Below.drew ?_ | with_reducible refine below_drewN ?_ _ | with_reducible refine Below.setCell ?_ ?_ _ | with_reducible refine Below.alloc ?_ ?_ _ | with_reducible exact HB2.out | with_reducible exact HB1.out | with_reducible refine Below.trans ?_ (Below.mono hb3 ?_) | with_reducible refine Below.trans ?_ (Below.mono hb5 ?_) | with_reducible refine Below.trans ?_ (Below.mono hb4 ?_) | omega | (simp; omega) | simp)) (hb3.mono (by first | (simp; done) | (simp; omega)))
  have HB2 : Hid (Below w.heap.size w w3) := HB1.out.trans (hb23.mono HB1.out.size)
  have hc3 := (blk (heap_below hb3 (k := w2.heap.size) (by first | (simp; done) | (simp; omega)) (heap_at (w := w2) (o := .cells #[.int .i64 0, .int .i64 0] 28) rfl))).1
  have z3 : w2.heap.size < w3.heap.size := by have := hb3.size; simp at this; omega
  have z4 := HB1.out.size
  obtain ⟨b, o, hp, hc, _⟩ := intGet HS.out hb23 (i := m) (by rw [pureL_len]; exact hml)
  subst hp
  rw [pureL_get] at hc
  have zc := lt_of_cell hc
  clear hb3 hb23
  go_wp2_with fail
  go_ret
  exact ⟨rfl, by repeat (first | with_reducible exact Below.refl _ _ | with_reducible exact HB3.out | with_reducible refine Below.drew ?_ | with_reducible refine below_drewN ?_ _ | with_reducible refine Below.setCell ?_ ?_ _ | with_reducible refine Below.alloc ?_ ?_ _ | with_reducible exact HB2.out | with_reducible exact HB1.out | with_reducible refine Below.trans ?_ (Below.mono hb3 ?_) | with_reducible refine Below.trans ?_ (Below.mono hb5 ?_) | with_reducible refine Below.trans ?_ (Below.mono hb4 ?_) | omega | (simp; omega) | simp)⟩
theorem pmain_any {u : UniL} {gp fp : Option Addr} {gc fc : Nat} {w : World} (hUn : UnA u gp fp w) :
    Calls Tryd.prog 32 #[.agg #[.slice gp u.globals.length gc, .slice fp u.funcs.length fc]] w fun e w' => e = .returned (.int .i64 (mainM u)) ∧ Below w.heap.size w w' := by
  by_cases h : (chk u).1 = 0
  · obtain ⟨m, hm, hml⟩ := mainI_get (chk_ok h).2
    have e : mainM u = maskI (maskB u m) := by unfold mainM; rw [if_pos h, hm]; rfl
    rw [e]
    exact pmain_ok hUn h hm hml
  · have e : mainM u = -1 := by unfold mainM; rw [if_neg h]
    rw [e]
    exact pmain_bad hUn h
end Go.Proofs.YtlalmbklhmpngaaDoor
