/-
  The contracts of run.Counts where it tells a fault, and of run.Do.
-/
import Derived.Test.YtdjamkinijhjoaaDoorRunM
import Derived.WalkKit
import Derived.WalkSpells
import Derived.WalkLawsBesides
namespace Go.Proofs.YtdjamkinijhjoaaDoor
open Go.RowKit

/-- a unit lies in memory -/
structure UnA (u : UniL) (gp fp : Option Addr) (w : World) : Prop where
  gl : u.globals.length * 48 ≤ 140737488351232
  glo : SliceAt w 3 (GloR w) gp u.globals
  fl : u.funcs.length * 56 ≤ 140737488351232
  fns : SliceAt w 4 (FunR w) fp u.funcs
  ways : Ways w
theorem UnA.mono {u : UniL} {gp fp : Option Addr} {w w' : World} (h : UnA u gp fp w) (hb : Below w.heap.size w w') : UnA u gp fp w' :=
  ⟨h.gl, glosMono h.glo hb, h.fl, funsMono h.fns hb, h.ways.below hb⟩
/-- a unit's value -/
@[reducible] def unV (u : UniL) (gp fp : Option Addr) (gc fc : Nat) : Value := .agg #[.slice gp u.globals.length gc, .slice fp u.funcs.length fc]
@[reducible] def ftV (c a : Int) : Value := .agg #[.int .i64 c, .int .i64 a]
theorem check_un {u : UniL} {gp fp : Option Addr} {gc fc : Nat} {w : World} (h : UnA u gp fp w) : Calls Tryd.prog 14 #[.agg #[.slice gp u.globals.length gc, .slice fp u.funcs.length fc]] w fun e w' => e = .returned (.agg #[.int .i64 (chk u).1, .int .i64 (chk u).2]) ∧ Below w.heap.size w w' :=
  check_any u gp fp gc fc w h.gl h.glo h.fl h.fns h.ways
theorem slice_mem {α : Type} {w : World} {k : Nat} {R : List Value → α → Prop} {p : Option Addr} {xs : List α} (h : SliceAt w k R p xs) {x : α} (hx : x ∈ xs) : ∃ cs, R cs x := by
  obtain ⟨i, hi, rfl⟩ := List.getElem_of_mem hx
  rcases h with h0 | ⟨b, o, _, h⟩
  · subst h0; cases hx
  · obtain ⟨cs, _, _, hR⟩ := h i hi
    exact ⟨cs, hR⟩
theorem SlF.mem {α : Type} {w : World} {k b : Nat} {R : List Value → α → Prop} {v : Value} {xs : List α} (h : SlF w k b R v xs) {x : α} (hx : x ∈ xs) : ∃ cs, R cs x := by
  obtain ⟨p, c, _, _, _, _, hs⟩ := h
  exact slice_mem hs hx
/-- all numbers of a unit that lies in memory are of Go's int -/
theorem U64.of {u : UniL} {gp fp : Option Addr} {w : World} (h : UnA u gp fp w) : U64 u := by
  have hb : ∀ f ∈ u.funcs, ∀ b ∈ f.blocks, ∃ cs, BlkR w cs b := fun f hf b hb => by
    obtain ⟨_, _, _, _, _, _, hs⟩ := slice_mem h.fns hf
    exact hs.mem hb
  refine ⟨fun f hf b hbm x hx => ?_, fun f hf b hbm p hp v hv => ?_, fun f hf b hbm => ?_, fun g hg x hx => ?_⟩
  · obtain ⟨_, _, _, _, _, _, _, _, hl, _⟩ := hb f hf b hbm
    obtain ⟨_, _, _, _, _, ha, hbn, _, hs⟩ := hl.mem hx
    exact ⟨ha, hbn, fun v hv => (hs.mem hv).elim fun _ h => h.2⟩
  · obtain ⟨_, _, _, _, _, _, _, hl, _⟩ := hb f hf b hbm
    obtain ⟨_, _, _, _, hs⟩ := hl.mem hp
    exact (hs.mem hv).elim fun _ h => h.2
  · obtain ⟨_, _, _, _, _, _, hn, _⟩ := hb f hf b hbm
    exact hn
  · obtain ⟨_, _, _, _, _, hs⟩ := slice_mem h.glo hg
    exact (hs.mem hx).elim fun _ h => h.2
/-- no outcome -/
@[reducible] def noOut : Value := .agg #[.int .i64 0, .int .i64 0, .slice none 0 0, .int .i64 0]

set_option maxRecDepth 100000 in
set_option maxHeartbeats 1000000 in
theorem counts_bad {u : UniL} {gp fp : Option Addr} {gc fc : Nat} {w : World} (hUn : UnA u gp fp w) (ip : Option Addr) (il ic : Nat) (fuel : Int) (h : (chk u).1 ≠ 0) :
    Calls Tryd.prog 47 #[.agg #[.slice gp u.globals.length gc, .slice fp u.funcs.length fc], .slice ip il ic, .int .i64 fuel] w fun e w' => e = .returned (.tuple #[.slice none 0 0, noOut, .agg #[.int .i64 (chk u).1, .int .i64 (chk u).2]]) ∧ Below w.heap.size w w' := by
  have HUn := hidI hUn
  have hne : ((chk u).1 == 0 && (chk u).2 == 0) = false := by simp [h]
  have hq : ∀ w, (binOp .neq 28 (.agg #[.int .i64 (chk u).1, .int .i64 (chk u).2]) (.agg #[.int .i64 0, .int .i64 0])).run Tryd.prog w = .ok (.bool true) w := fun w => by rw [run_neFault, hne]; rfl
  clear hUn h hne
  go_enter Tryd.func47, Tryd.ntmps47
  go_wp2_with fail
  refine (check_un (HUn.out.mono (by repeat (first | with_reducible exact Below.refl _ _ | with_reducible exact HB3.out | with_reducible refine Below.drew ?_ | with_reducible refine below_drewN ?_ _ | with_reducible refine Below.setCell ?_ ?_ _ | with_reducible refine Below.alloc ?_ ?_ _ | with_reducible exact HB2.out | with_reducible exact HB1.out | with_reducible refine Below.trans ?_ (Below.mono hb3 ?_) | with_reducible refine Below.trans ?_ (Below.mono hb5 ?_) | with_reducible refine Below.trans ?_ (Below.mono hb4 ?_) | omega | (simp; omega) | simp)))).mono ?_
  rintro e w2 ⟨rfl, hb2⟩
  have HB1 : Hid (Below w.heap.size w w2) := Below.trans (by repeat (first | with_reducible exact Below.refl _ _ | with_reducible exact HB3.out | with_reducible refine Below.drew ?_ | with_reducible refine below_drewN ?_ _ | with_reducible refine Below.setCell ?_ ?_ _ | with_reducible refine Below.alloc ?_ ?_ _ | with_reducible exact HB2.out | with_reducible exact HB1.out | with_reducible refine Below.trans ?_ (Below.mono hb3 ?_) | with_reducible refine Below.trans ?_ (Below.mono hb5 ?_) | with_reducible refine Below.trans ?_ (Below.mono hb4 ?_) | omega | (simp; omega) | simp)) (hb2.mono (by simp; omega))
  have hzz := hb2.size
  simp at hzz
  have hz1 : w.heap.size + 1 < w2.heap.size := by omega
  have hz2 : w.heap.size + 1 + 1 < w2.heap.size := by omega
  have h2b : w2.heap[w.heap.size + 1]? = some (.cells #[.int .i64 0, .int .i64 0, .slice none 0 0, .int .i64 0] 65 (0, 0)) := heap_below hb2 (k := w.heap.size + 1) (by simp) (heap_step (heap_at (by simp)))
  have h2c : w2.heap[w.heap.size + 1 + 1]? = some (.cells #[.int .i64 0, .int .i64 0] 28 (0, 0)) := heap_below hb2 (k := w.heap.size + 1 + 1) (by simp) (heap_at (by simp))
  obtain ⟨g0c, g0f⟩ := blk h2b
  obtain ⟨g1c, g1f⟩ := blk h2c
  have HA := hidI h2b
  have HC := hidI h2c
  clear hb2 h2b h2c
  go_wp2_with fail
  go_region
  all_goals go_wp2
  all_goals
    obtain ⟨WF, hWF⟩ : ∃ WF, WF = tell6 w2 (w.heap.size + 1) (w.heap.size + 1 + 1) (.int .i64 0) (.int .i64 0) (.slice none 0 0) (.int .i64 0) (.int .i64 (chk u).1) (.int .i64 (chk u).2) := ⟨_, rfl⟩
    obtain ⟨q2, q3, _, hb6, z6, z7⟩ := tell6_spec (show w.heap.size + 1 ≠ w.heap.size + 1 + 1 by omega) HA.out HC.out (.int .i64 0) (.int .i64 0) (.slice none 0 0) (.int .i64 0) (.int .i64 (chk u).1) (.int .i64 (chk u).2) (B := w.heap.size) (by omega) (by omega)
    rw [← hWF] at q2 q3 hb6 z6 z7
    unfold tell6 at hWF
    clear g0c g0f g1c g1f
    rw [← hWF]
    have HB2 : Hid (Below w.heap.size w WF) := HB1.out.trans hb6
    refine bodyPost_ret (v := .tuple #[.slice none 0 0, noOut, .agg #[.int .i64 (chk u).1, .int .i64 (chk u).2]]) ?_ rfl ⟨rfl, by repeat (first | with_reducible exact Below.refl _ _ | with_reducible exact HB3.out | with_reducible refine Below.drew ?_ | with_reducible refine below_drewN ?_ _ | with_reducible refine Below.setCell ?_ ?_ _ | with_reducible refine Below.alloc ?_ ?_ _ | with_reducible exact HB2.out | with_reducible exact HB1.out | with_reducible refine Below.trans ?_ (Below.mono hb3 ?_) | with_reducible refine Below.trans ?_ (Below.mono hb5 ?_) | with_reducible refine Below.trans ?_ (Below.mono hb4 ?_) | omega | (simp; omega) | simp)⟩
    have z8 : w.heap.size + 1 < WF.heap.size + 1 := by omega
    have z9 : w.heap.size + 1 + 1 < WF.heap.size + 1 := by omega
    simp [results, Tryd.results47, go_sem, q2, q3, z6, z7]
set_option maxRecDepth 100000 in
set_option maxHeartbeats 1000000 in
theorem counts_many {u : UniL} {gp fp : Option Addr} {gc fc : Nat} {w : World} (hUn : UnA u gp fp w) (ip : Option Addr) (il ic : Nat) (fuel : Int) (h : (chk u).1 = 0) (hil : 30 < il) :
    Calls Tryd.prog 47 #[.agg #[.slice gp u.globals.length gc, .slice fp u.funcs.length fc], .slice ip il ic, .int .i64 fuel] w fun e w' => e = .returned (.tuple #[.slice none 0 0, noOut, .agg #[.int .i64 2, .int .i64 (-1)]]) ∧ Below w.heap.size w w' := by
  have HUn := hidI hUn
  have hne : ((chk u).1 == 0 && (chk u).2 == 0) = true := by rw [(chk_ok h).1]; rfl
  have hq : ∀ w, (binOp .neq 28 (.agg #[.int .i64 (chk u).1, .int .i64 (chk u).2]) (.agg #[.int .i64 0, .int .i64 0])).run Tryd.prog w = .ok (.bool false) w := fun w => by rw [run_neFault, hne]; rfl
  clear hUn h hne
  go_enter Tryd.func47, Tryd.ntmps47
  go_wp2_with fail
  refine (check_un (HUn.out.mono (by repeat (first | with_reducible exact Below.refl _ _ | with_reducible exact HB3.out | with_reducible refine Below.drew ?_ | with_reducible refine below_drewN ?_ _ | with_reducible refine Below.setCell ?_ ?_ _ | with_reducible refine Below.alloc ?_ ?_ _ | with_reducible exact HB2.out | with_reducible exact HB1.out | with_reducible refine Below.trans ?_ (Below.mono hb3 ?_) | with_reducible refine Below.trans ?_ (Below.mono hb5 ?_) | with_reducible refine Below.trans ?_ (Below.mono hb4 ?_) | omega | (simp; omega) | simp)))).mono ?_
  rintro e w2 ⟨rfl, hb2⟩
  have HB1 : Hid (Below w.heap.size w w2) := Below.trans (by repeat (first | with_reducible exact Below.refl _ _ | with_reducible exact HB3.out | with_reducible refine Below.drew ?_ | with_reducible refine below_drewN ?_ _ | with_reducible refine Below.setCell ?_ ?_ _ | with_reducible refine Below.alloc ?_ ?_ _ | with_reducible exact HB2.out | with_reducible exact HB1.out | with_reducible refine Below.trans ?_ (Below.mono hb3 ?_) | with_reducible refine Below.trans ?_ (Below.mono hb5 ?_) | with_reducible refine Below.trans ?_ (Below.mono hb4 ?_) | omega | (simp; omega) | simp)) (hb2.mono (by simp; omega))
  have hzz := hb2.size
  simp at hzz
  have hz1 : w.heap.size + 1 < w2.heap.size := by omega
  have hz2 : w.heap.size + 1 + 1 < w2.heap.size := by omega
  have h2b : w2.heap[w.heap.size + 1]? = some (.cells #[.int .i64 0, .int .i64 0, .slice none 0 0, .int .i64 0] 65 (0, 0)) := heap_below hb2 (k := w.heap.size + 1) (by simp) (heap_step (heap_at (by simp)))
  have h2c : w2.heap[w.heap.size + 1 + 1]? = some (.cells #[.int .i64 0, .int .i64 0] 28 (0, 0)) := heap_below hb2 (k := w.heap.size + 1 + 1) (by simp) (heap_at (by simp))
  have hz3 : w.heap.size + 1 < w2.heap.size + 1 := by omega
  have hz4 : w.heap.size + 1 + 1 < w2.heap.size + 1 := by omega
  have hz5 : w.heap.size + 1 < w2.heap.size + 1 + 1 := by omega
  have hz6 : w.heap.size + 1 + 1 < w2.heap.size + 1 + 1 := by omega
  obtain ⟨g0c, g0f⟩ := blk h2b
  obtain ⟨g1c, g1f⟩ := blk h2c
  have HA := hidI h2b
  have HC := hidI h2c
  clear hb2 h2b h2c
  go_wp2_with fail
  refine (cfault_any _ _ _).mono ?_
  rintro e w3 ⟨rfl, rfl⟩
  go_wp2_with fail
  all_goals
    obtain ⟨WF, hWF⟩ : ∃ WF, WF = tell6 w2 (w.heap.size + 1) (w.heap.size + 1 + 1) (.int .i64 0) (.int .i64 0) (.slice none 0 0) (.int .i64 0) (.int .i64 2) (.int .i64 (-1)) := ⟨_, rfl⟩
    obtain ⟨q2, q3, _, hb6, z6, z7⟩ := tell6_spec (show w.heap.size + 1 ≠ w.heap.size + 1 + 1 by omega) HA.out HC.out (.int .i64 0) (.int .i64 0) (.slice none 0 0) (.int .i64 0) (.int .i64 2) (.int .i64 (-1)) (B := w.heap.size) (by omega) (by omega)
    rw [← hWF] at q2 q3 hb6 z6 z7
    unfold tell6 at hWF
    clear g0c g0f g1c g1f
    rw [← hWF]
    have HB2 : Hid (Below w.heap.size w WF) := HB1.out.trans hb6
    refine bodyPost_ret (v := .tuple #[.slice none 0 0, noOut, .agg #[.int .i64 2, .int .i64 (-1)]]) ?_ rfl ⟨rfl, by repeat (first | with_reducible exact Below.refl _ _ | with_reducible exact HB3.out | with_reducible refine Below.drew ?_ | with_reducible refine below_drewN ?_ _ | with_reducible refine Below.setCell ?_ ?_ _ | with_reducible refine Below.alloc ?_ ?_ _ | with_reducible exact HB2.out | with_reducible exact HB1.out | with_reducible refine Below.trans ?_ (Below.mono hb3 ?_) | with_reducible refine Below.trans ?_ (Below.mono hb5 ?_) | with_reducible refine Below.trans ?_ (Below.mono hb4 ?_) | omega | (simp; omega) | simp)⟩
    have z8 : w.heap.size + 1 < WF.heap.size + 1 := by omega
    have z9 : w.heap.size + 1 + 1 < WF.heap.size + 1 := by omega
    simp [results, Tryd.results47, go_sem, q2, q3, z6, z7, z8, z9]
set_option maxRecDepth 100000 in
set_option maxHeartbeats 1000000 in
theorem counts_far {u : UniL} {gp fp : Option Addr} {gc fc : Nat} {w : World} (hUn : UnA u gp fp w) (ip : Option Addr) (il ic : Nat) (fuel : Int) (h : (chk u).1 = 0) (hil : il ≤ 30) (hfu : wthn fuel 0 100000 = false) :
    Calls Tryd.prog 47 #[.agg #[.slice gp u.globals.length gc, .slice fp u.funcs.length fc], .slice ip il ic, .int .i64 fuel] w fun e w' => e = .returned (.tuple #[.slice none 0 0, noOut, .agg #[.int .i64 3, .int .i64 (-1)]]) ∧ Below w.heap.size w w' := by
  have HUn := hidI hUn
  have HWt := hidI hfu
  have hne : ((chk u).1 == 0 && (chk u).2 == 0) = true := by rw [(chk_ok h).1]; rfl
  have hq : ∀ w, (binOp .neq 28 (.agg #[.int .i64 (chk u).1, .int .i64 (chk u).2]) (.agg #[.int .i64 0, .int .i64 0])).run Tryd.prog w = .ok (.bool false) w := fun w => by rw [run_neFault, hne]; rfl
  clear hUn h hne hfu
  go_enter Tryd.func47, Tryd.ntmps47
  go_wp2_with fail
  refine (check_un (HUn.out.mono (by repeat (first | with_reducible exact Below.refl _ _ | with_reducible exact HB3.out | with_reducible refine Below.drew ?_ | with_reducible refine below_drewN ?_ _ | with_reducible refine Below.setCell ?_ ?_ _ | with_reducible refine Below.alloc ?_ ?_ _ | with_reducible exact HB2.out | with_reducible exact HB1.out | with_reducible refine Below.trans ?_ (Below.mono hb3 ?_) | with_reducible refine Below.trans ?_ (Below.mono hb5 ?_) | with_reducible refine Below.trans ?_ (Below.mono hb4 ?_) | omega | (simp; omega) | simp)))).mono ?_
  rintro e w2 ⟨rfl, hb2⟩
  have HB1 : Hid (Below w.heap.size w w2) := Below.trans (by repeat (first | with_reducible exact Below.refl _ _ | with_reducible exact HB3.out | with_reducible refine Below.drew ?_ | with_reducible refine below_drewN ?_ _ | with_reducible refine Below.setCell ?_ ?_ _ | with_reducible refine Below.alloc ?_ ?_ _ | with_reducible exact HB2.out | with_reducible exact HB1.out | with_reducible refine Below.trans ?_ (Below.mono hb3 ?_) | with_reducible refine Below.trans ?_ (Below.mono hb5 ?_) | with_reducible refine Below.trans ?_ (Below.mono hb4 ?_) | omega | (simp; omega) | simp)) (hb2.mono (by simp; omega))
  have hzz := hb2.size
  simp at hzz
  have hz1 : w.heap.size + 1 < w2.heap.size := by omega
  have hz2 : w.heap.size + 1 + 1 < w2.heap.size := by omega
  have h2b : w2.heap[w.heap.size + 1]? = some (.cells #[.int .i64 0, .int .i64 0, .slice none 0 0, .int .i64 0] 65 (0, 0)) := heap_below hb2 (k := w.heap.size + 1) (by simp) (heap_step (heap_at (by simp)))
  have h2c : w2.heap[w.heap.size + 1 + 1]? = some (.cells #[.int .i64 0, .int .i64 0] 28 (0, 0)) := heap_below hb2 (k := w.heap.size + 1 + 1) (by simp) (heap_at (by simp))
  have hz3 : w.heap.size + 1 < w2.heap.size + 1 := by omega
  have hz4 : w.heap.size + 1 + 1 < w2.heap.size + 1 := by omega
  have hz5 : w.heap.size + 1 < w2.heap.size + 1 + 1 := by omega
  have hz6 : w.heap.size + 1 + 1 < w2.heap.size + 1 + 1 := by omega
  obtain ⟨g0c, g0f⟩ := blk h2b
  obtain ⟨g1c, g1f⟩ := blk h2c
  have HA := hidI h2b
  have HC := hidI h2c
  clear hb2 h2b h2c
  go_wp2_with fail
  refine (within_any _ _ _ _).mono ?_
  rw [HWt.out]
  rintro e w3 ⟨rfl, rfl⟩
  go_wp2_with fail
  refine (cfault_any _ _ _).mono ?_
  rintro e w3 ⟨rfl, rfl⟩
  go_wp2_with fail
  all_goals
    obtain ⟨WF, hWF⟩ : ∃ WF, WF = tell6 w2 (w.heap.size + 1) (w.heap.size + 1 + 1) (.int .i64 0) (.int .i64 0) (.slice none 0 0) (.int .i64 0) (.int .i64 3) (.int .i64 (-1)) := ⟨_, rfl⟩
    obtain ⟨q2, q3, _, hb6, z6, z7⟩ := tell6_spec (show w.heap.size + 1 ≠ w.heap.size + 1 + 1 by omega) HA.out HC.out (.int .i64 0) (.int .i64 0) (.slice none 0 0) (.int .i64 0) (.int .i64 3) (.int .i64 (-1)) (B := w.heap.size) (by omega) (by omega)
    rw [← hWF] at q2 q3 hb6 z6 z7
    unfold tell6 at hWF
    clear g0c g0f g1c g1f
    rw [← hWF]
    have HB2 : Hid (Below w.heap.size w WF) := HB1.out.trans hb6
    refine bodyPost_ret (v := .tuple #[.slice none 0 0, noOut, .agg #[.int .i64 3, .int .i64 (-1)]]) ?_ rfl ⟨rfl, by repeat (first | with_reducible exact Below.refl _ _ | with_reducible exact HB3.out | with_reducible refine Below.drew ?_ | with_reducible refine below_drewN ?_ _ | with_reducible refine Below.setCell ?_ ?_ _ | with_reducible refine Below.alloc ?_ ?_ _ | with_reducible exact HB2.out | with_reducible exact HB1.out | with_reducible refine Below.trans ?_ (Below.mono hb3 ?_) | with_reducible refine Below.trans ?_ (Below.mono hb5 ?_) | with_reducible refine Below.trans ?_ (Below.mono hb4 ?_) | omega | (simp; omega) | simp)⟩
    have z8 : w.heap.size + 1 < WF.heap.size + 1 := by omega
    have z9 : w.heap.size + 1 + 1 < WF.heap.size + 1 := by omega
    simp [results, Tryd.results47, go_sem, q2, q3, z6, z7, z8, z9]
/-- the fault of a run -/
def runF (u : UniL) (n : Nat) (fuel : Int) : Int × Int := if (chk u).1 ≠ 0 then chk u else if 30 < n then (2, -1) else if wthn fuel 0 100000 = false then (3, -1) else (0, 0)
/-- nothing was run -/
def noS : StL := ⟨[], [], 0, 0, [], 0, [], fun _ _ => 0⟩
/-- what a run comes to, with its fault -/
def runO (u : UniL) (inp : List Int) (fuel : Int) : StL := if (runF u inp.length fuel).1 = 0 then runU u inp fuel.toNat else noS
theorem runF_zero {u : UniL} {n : Nat} {fuel : Int} (h : (runF u n fuel).1 = 0) : (chk u).1 = 0 ∧ n ≤ 30 ∧ (0 ≤ fuel ∧ fuel ≤ 100000) ∧ (runF u n fuel).2 = 0 := by
  unfold runF at h ⊢
  by_cases h1 : (chk u).1 ≠ 0
  · rw [if_pos h1] at h; exact absurd h h1
  rw [if_neg h1] at h ⊢
  by_cases h2 : 30 < n
  · rw [if_pos h2] at h; cases h
  rw [if_neg h2] at h ⊢
  by_cases h3 : wthn fuel 0 100000 = false
  · rw [if_pos h3] at h; cases h
  rw [if_neg h3]
  refine ⟨by omega, by omega, ?_, rfl⟩
  have h4 : wthn fuel 0 100000 = true := by simpa using h3
  unfold wthn at h4
  exact of_decide_eq_true h4
/-- run.Counts, whatever the unit is -/
theorem counts_any {u : UniL} {gp fp : Option Addr} {gc fc : Nat} {w : World} (hUn : UnA u gp fp w) (inp : List Int) (ip : Option Addr) (ic : Nat) (fuel : Int) (hI : SliceAt w 1 IntR ip inp) (hic : inp.length ≤ ic) (hip : ip = none → ic = 0) :
    Calls Tryd.prog 47 #[.agg #[.slice gp u.globals.length gc, .slice fp u.funcs.length fc], .slice ip inp.length ic, .int .i64 fuel] w fun e w' => ∃ cp cl cc p c, e = .returned (.tuple #[.slice cp cl cc, .agg #[.int .i64 (runO u inp fuel).state, .int .i64 (runO u inp fuel).value, .slice p (runO u inp fuel).outs.length c, .int .i64 (runO u inp fuel).steps], .agg #[.int .i64 (runF u inp.length fuel).1, .int .i64 (runF u inp.length fuel).2]]) ∧
      ((runF u inp.length fuel).1 = 0 → ∃ CT, cp = some ⟨CT, 0, none⟩ ∧ cl = u.funcs.length ∧ RunAt u w' (runO u inp fuel) w.heap.size CT p) ∧ SliceAt w' 1 IntR p (runO u inp fuel).outs ∧ (∀ a, p = some a → w.heap.size ≤ a.block) ∧ Below w.heap.size w w' := by
  by_cases h : (runF u inp.length fuel).1 = 0
  · obtain ⟨h1, h2, ⟨h3, h4⟩, h5⟩ := runF_zero h
    obtain ⟨n, rfl⟩ := Int.eq_ofNat_of_zero_le h3
    have hR : runO u inp (n : Int) = runU u inp n := by unfold runO; rw [if_pos h]; rfl
    refine (counts_ok u gp fp gc fc inp ip ic n w hUn.gl hUn.glo hUn.fl hUn.fns hUn.ways h1 (U64.of hUn) h2 (fun x hx => (slice_mem hI hx).elim fun _ h => h.2) hI hic hip (by omega)).mono ?_
    rintro e w' ⟨CT, cc, p, c, rfl, hA, hb⟩
    rw [hR, h, h5]
    exact ⟨_, _, cc, p, c, rfl, fun _ => ⟨CT, rfl, rfl, hA⟩, hA.outs, hA.low, hb⟩
  · have hR : runO u inp fuel = noS := by unfold runO; rw [if_neg h]
    rw [hR]
    have hfin : ∀ e w', e = Ending.returned (.tuple #[.slice none 0 0, noOut, .agg #[.int .i64 (runF u inp.length fuel).1, .int .i64 (runF u inp.length fuel).2]]) ∧ Below w.heap.size w w' → ∃ cp cl cc p c, e = .returned (.tuple #[.slice cp cl cc, .agg #[.int .i64 noS.state, .int .i64 noS.value, .slice p noS.outs.length c, .int .i64 noS.steps], .agg #[.int .i64 (runF u inp.length fuel).1, .int .i64 (runF u inp.length fuel).2]]) ∧
      ((runF u inp.length fuel).1 = 0 → ∃ CT, cp = some ⟨CT, 0, none⟩ ∧ cl = u.funcs.length ∧ RunAt u w' noS w.heap.size CT p) ∧ SliceAt w' 1 IntR p noS.outs ∧ (∀ a, p = some a → w.heap.size ≤ a.block) ∧ Below w.heap.size w w' := fun e w' h2 => ⟨none, 0, 0, none, 0, h2.1, fun h0 => absurd h0 h, .inl rfl, (fun _ e => by cases e), h2.2⟩
    by_cases h1 : (chk u).1 ≠ 0
    · have e : runF u inp.length fuel = chk u := by unfold runF; rw [if_pos h1]
      rw [e] at hfin ⊢
      exact (counts_bad hUn ip inp.length ic fuel h1).mono hfin
    have h1' : (chk u).1 = 0 := by omega
    by_cases h2 : 30 < inp.length
    · have e : runF u inp.length fuel = (2, -1) := by unfold runF; rw [if_neg h1, if_pos h2]
      rw [e] at hfin ⊢
      exact (counts_many hUn ip inp.length ic fuel h1' h2).mono hfin
    by_cases h3 : wthn fuel 0 100000 = false
    · have e : runF u inp.length fuel = (3, -1) := by unfold runF; rw [if_neg h1, if_neg h2, if_pos h3]
      rw [e] at hfin ⊢
      exact (counts_far hUn ip inp.length ic fuel h1' (by omega) h3).mono hfin
    · exfalso
      apply h
      unfold runF
      rw [if_neg h1, if_neg h2, if_neg h3]

set_option maxRecDepth 100000 in
set_option maxHeartbeats 1000000 in
/-- run.Do, whatever the unit is -/
theorem do_any {u : UniL} {gp fp : Option Addr} {gc fc : Nat} {w : World} (hUn : UnA u gp fp w) (inp : List Int) (ip : Option Addr) (ic : Nat) (fuel : Int) (hI : SliceAt w 1 IntR ip inp) (hic : inp.length ≤ ic) (hip : ip = none → ic = 0) :
    Calls Tryd.prog 20 #[.agg #[.slice gp u.globals.length gc, .slice fp u.funcs.length fc], .slice ip inp.length ic, .int .i64 fuel] w fun e w' => ∃ p c, e = .returned (.tuple #[.agg #[.int .i64 (runO u inp fuel).state, .int .i64 (runO u inp fuel).value, .slice p (runO u inp fuel).outs.length c, .int .i64 (runO u inp fuel).steps], .agg #[.int .i64 (runF u inp.length fuel).1, .int .i64 (runF u inp.length fuel).2]]) ∧
      SliceAt w' 1 IntR p (runO u inp fuel).outs ∧ (∀ a, p = some a → w.heap.size ≤ a.block) ∧ Below w.heap.size w w' := by
  have HUn := hidI hUn
  have HI := hidI hI
  clear hUn hI
  go_enter Tryd.func20, Tryd.ntmps20
  go_wp2_with fail
  refine (counts_any (HUn.out.mono (by repeat (first | with_reducible exact Below.refl _ _ | with_reducible exact HB3.out | with_reducible refine Below.drew ?_ | with_reducible refine below_drewN ?_ _ | with_reducible refine Below.setCell ?_ ?_ _ | with_reducible refine Below.alloc ?_ ?_ _ | with_reducible exact HB2.out | with_reducible exact HB1.out | with_reducible refine Below.trans ?_ (Below.mono hb3 ?_) | with_reducible refine Below.trans ?_ (Below.mono hb5 ?_) | with_reducible refine Below.trans ?_ (Below.mono hb4 ?_) | omega | (simp; omega) | simp))) inp ip ic fuel (HI.out.mono (w' := ((w.alloc _).alloc _).alloc _) (by repeat (first | with_reducible exact Below.refl _ _ | with_reducible exact HB3.out | with_reducible refine Below.drew ?_ | with_reducible refine below_drewN ?_ _ | with_reducible refine Below.setCell ?_ ?_ _ | with_reducible refine Below.alloc ?_ ?_ _ | with_reducible exact HB2.out | with_reducible exact HB1.out | with_reducible refine Below.trans ?_ (Below.mono hb3 ?_) | with_reducible refine Below.trans ?_ (Below.mono hb5 ?_) | with_reducible refine Below.trans ?_ (Below.mono hb4 ?_) | omega | (simp; omega) | simp)) (by omega) fun _ _ g => g) hic hip).mono ?_
  rintro e w2 ⟨cp, cl, cc, p, c, rfl, _, hS, hlow, hb2⟩
  have HB1 : Hid (Below w.heap.size w w2) := Below.trans (by repeat (first | with_reducible exact Below.refl _ _ | with_reducible exact HB3.out | with_reducible refine Below.drew ?_ | with_reducible refine below_drewN ?_ _ | with_reducible refine Below.setCell ?_ ?_ _ | with_reducible refine Below.alloc ?_ ?_ _ | with_reducible exact HB2.out | with_reducible exact HB1.out | with_reducible refine Below.trans ?_ (Below.mono hb3 ?_) | with_reducible refine Below.trans ?_ (Below.mono hb5 ?_) | with_reducible refine Below.trans ?_ (Below.mono hb4 ?_) | omega | (simp; omega) | simp)) (hb2.mono (by simp; omega))
  have hzz := hb2.size
  simp at hzz
  have hz1 : w.heap.size + 1 < w2.heap.size := by omega
  have hz2 : w.heap.size + 1 + 1 < w2.heap.size := by omega
  have h2b : w2.heap[w.heap.size + 1]? = some (.cells #[.int .i64 0, .int .i64 0, .slice none 0 0, .int .i64 0] 65 (0, 0)) := heap_below hb2 (k := w.heap.size + 1) (by simp) (heap_step (heap_at (by simp)))
  have h2c : w2.heap[w.heap.size + 1 + 1]? = some (.cells #[.int .i64 0, .int .i64 0] 28 (0, 0)) := heap_below hb2 (k := w.heap.size + 1 + 1) (by simp) (heap_at (by simp))
  have hz3 : w.heap.size + 1 < w2.heap.size + 1 := by omega
  have hz4 : w.heap.size + 1 + 1 < w2.heap.size + 1 := by omega
  have hz5 : w.heap.size + 1 < w2.heap.size + 1 + 1 := by omega
  have hz6 : w.heap.size + 1 + 1 < w2.heap.size + 1 + 1 := by omega
  obtain ⟨g0c, g0f⟩ := blk h2b
  obtain ⟨g1c, g1f⟩ := blk h2c
  have HA := hidI h2b
  have HC := hidI h2c
  have HS := hidI hS
  have HL := hidI hlow
  clear hb2 h2b h2c hS hlow
  go_wp2_with fail
  go_region
  all_goals go_wp2
  all_goals
    obtain ⟨WF, hWF⟩ : ∃ WF, WF = tell6 w2 (w.heap.size + 1) (w.heap.size + 1 + 1) (.int .i64 (runO u inp fuel).state) (.int .i64 (runO u inp fuel).value) (.slice p (runO u inp fuel).outs.length c) (.int .i64 (runO u inp fuel).steps) (.int .i64 (runF u inp.length fuel).1) (.int .i64 (runF u inp.length fuel).2) := ⟨_, rfl⟩
    obtain ⟨q2, q3, q4, hb6, z6, z7⟩ := tell6_spec (show w.heap.size + 1 ≠ w.heap.size + 1 + 1 by omega) HA.out HC.out (.int .i64 (runO u inp fuel).state) (.int .i64 (runO u inp fuel).value) (.slice p (runO u inp fuel).outs.length c) (.int .i64 (runO u inp fuel).steps) (.int .i64 (runF u inp.length fuel).1) (.int .i64 (runF u inp.length fuel).2) (B := w.heap.size) (by omega) (by omega)
    rw [← hWF] at q2 q3 q4 hb6 z6 z7
    unfold tell6 at hWF
    clear g0c g0f g1c g1f
    rw [← hWF]
    have HB2 : Hid (Below w.heap.size w WF) := HB1.out.trans hb6
    refine bodyPost_ret (v := .tuple #[.agg #[.int .i64 (runO u inp fuel).state, .int .i64 (runO u inp fuel).value, .slice p (runO u inp fuel).outs.length c, .int .i64 (runO u inp fuel).steps], .agg #[.int .i64 (runF u inp.length fuel).1, .int .i64 (runF u inp.length fuel).2]]) ?_ rfl ⟨p, c, rfl, ?_, ?_, by repeat (first | with_reducible exact Below.refl _ _ | with_reducible exact HB3.out | with_reducible refine Below.drew ?_ | with_reducible refine below_drewN ?_ _ | with_reducible refine Below.setCell ?_ ?_ _ | with_reducible refine Below.alloc ?_ ?_ _ | with_reducible exact HB2.out | with_reducible exact HB1.out | with_reducible refine Below.trans ?_ (Below.mono hb3 ?_) | with_reducible refine Below.trans ?_ (Below.mono hb5 ?_) | with_reducible refine Below.trans ?_ (Below.mono hb4 ?_) | omega | (simp; omega) | simp)⟩
    · have z8 : w.heap.size + 1 < WF.heap.size + 1 := by omega
      have z9 : w.heap.size + 1 + 1 < WF.heap.size + 1 := by omega
      have z10 : w.heap.size + 1 < WF.heap.size + 1 + 1 := by omega
      have z11 : w.heap.size + 1 + 1 < WF.heap.size + 1 + 1 := by omega
      simp [results, Tryd.results20, go_sem, q2, q3, z6, z7, z8, z9]
    · have hS2 := slice_block (w' := WF) HS.out fun a e => by
        have h1 := HL.out a e
        simp at h1
        exact q4 a.block (by omega) (by omega)
      exact hS2.mono (by repeat (first | with_reducible exact Below.refl _ _ | with_reducible exact HB3.out | with_reducible refine Below.drew ?_ | with_reducible refine below_drewN ?_ _ | with_reducible refine Below.setCell ?_ ?_ _ | with_reducible refine Below.alloc ?_ ?_ _ | with_reducible exact HB2.out | with_reducible exact HB1.out | with_reducible refine Below.trans ?_ (Below.mono hb3 ?_) | with_reducible refine Below.trans ?_ (Below.mono hb5 ?_) | with_reducible refine Below.trans ?_ (Below.mono hb4 ?_) | omega | (simp; omega) | simp)) (by omega) fun _ _ g => g
    · intro a e
      have h1 := HL.out a e
      simp at h1
      omega
end Go.Proofs.YtdjamkinijhjoaaDoor
