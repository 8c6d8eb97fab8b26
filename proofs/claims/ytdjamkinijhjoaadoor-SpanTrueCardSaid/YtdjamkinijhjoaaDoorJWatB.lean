/-
  The contracts of run.Counts where it tells a fault, and of run.Do.
  A unit of the call's own of which the lists are replaced: what holds block by block, and how it reads at the end.
-/
import Derived.WalkKit
import Derived.WalkSpells
import Derived.WalkLawsBesides
import Derived.Test.YtdjamkinijhjoaaDoorRunM
import Derived.Test.YtdjamkinijhjoaaDoorJWatA
namespace Go.Proofs.YtdjamkinijhjoaaDoor
open Go.RowKit

structure UnA (u : UniL) (gp fp : Option Addr) (w : World) : Prop where
 gl : u.globals.length * 48 ≤ 140737488351232
 glo : SliceAt w 3 (GloR w) gp u.globals
 fl : u.funcs.length * 56 ≤ 140737488351232
 fns : SliceAt w 4 (FunR w) fp u.funcs
 ways : Ways w
theorem UnA.mono {u : UniL} {gp fp : Option Addr} {w w' : World} (h : UnA u gp fp w) (hb : Below w.heap.size w w') : UnA u gp fp w' :=
 ⟨h.gl, glosMono h.glo hb, h.fl, funsMono h.fns hb, h.ways.below hb⟩
theorem check_un {u : UniL} {gp fp : Option Addr} {gc fc : Nat} {w : World} (h : UnA u gp fp w) : Calls Tryd.prog 14 #[.agg #[.slice gp u.globals.length gc, .slice fp u.funcs.length fc]] w fun e w' => e = .returned (.agg #[.int .i64 (chk u).1, .int .i64 (chk u).2]) ∧ Below w.heap.size w w' :=
 check_any u gp fp gc fc w h.gl h.glo h.fl h.fns h.ways
theorem slice_mem {α : Type} {w : World} {k : Nat} {R : List Value → α → Prop} {p : Option Addr} {xs : List α} (h : SliceAt w k R p xs) {x : α} (hx : x ∈ xs) : ∃ cs, R cs x := by
 obtain ⟨i, hi, rfl⟩ := List.getElem_of_mem hx
 rcases h with h0 | ⟨b, o, _, h⟩
 ·subst h0; cases hx
 ·obtain ⟨cs, _, _, hR⟩ := h i hi
  exact ⟨cs, hR⟩
theorem SlF.mem {α : Type} {w : World} {k b : Nat} {R : List Value → α → Prop} {v : Value} {xs : List α} (h : SlF w k b R v xs) {x : α} (hx : x ∈ xs) : ∃ cs, R cs x := by
 obtain ⟨p, c, _, _, _, _, hs⟩ := h
 exact slice_mem hs hx
theorem U64.of {u : UniL} {gp fp : Option Addr} {w : World} (h : UnA u gp fp w) : U64 u := by
 have hb : ∀ f ∈ u.funcs, ∀ b ∈ f.blocks, ∃ cs, BlkR w cs b := fun f hf b hb => by
  obtain ⟨_, _, _, _, _, _, hs⟩ := slice_mem h.fns hf
  exact hs.mem hb
 refine ⟨fun f hf b hbm x hx => ?_, fun f hf b hbm p hp v hv => ?_, fun f hf b hbm => ?_, fun g hg x hx => ?_⟩
 ·obtain ⟨_, _, _, _, _, _, _, _, hl, _⟩ := hb f hf b hbm
  obtain ⟨_, _, _, _, _, ha, hbn, _, hs⟩ := hl.mem hx
  exact ⟨ha, hbn, fun v hv => (hs.mem hv).elim fun _ h => h.2⟩
 ·obtain ⟨_, _, _, _, _, _, _, hl, _⟩ := hb f hf b hbm
  obtain ⟨_, _, _, _, hs⟩ := hl.mem hp
  exact (hs.mem hv).elim fun _ h => h.2
 ·obtain ⟨_, _, _, _, _, _, hn, _⟩ := hb f hf b hbm
  exact hn
 ·obtain ⟨_, _, _, _, _, hs⟩ := slice_mem h.glo hg
  exact (hs.mem hx).elim fun _ h => h.2
@[reducible] def noOut : Value := .agg #[.int .i64 0, .int .i64 0, .slice none 0 0, .int .i64 0]

set_option maxRecDepth 100000 in
set_option maxHeartbeats 1000000 in
theorem counts_bad {u : UniL} {gp fp : Option Addr} {gc fc : Nat} {w : World} (hUn : UnA u gp fp w) (ip : Option Addr) (il ic : Nat) (fuel : Int) (h : (chk u).1 ≠ 0) :
  Calls Tryd.prog 47 #[.agg #[.slice gp u.globals.length gc, .slice fp u.funcs.length fc], .slice ip il ic, .int .i64 fuel] w fun e w' => e = .returned (.tuple #[.slice none 0 0, noOut, .agg #[.int .i64 (chk u).1, .int .i64 (chk u).2]]) ∧ Below w.heap.size w w' := by
 have HUn := hidI hUn
 have hne : ((chk u).1 == 0 && (chk u).2 == 0) = false := by simp [h]
 have hq : ∀ w, (binOp .neq 28 (.agg #[.int .i64 (chk u).1, .int .i64 (chk u).2]) (.agg #[.int .i64 0, .int .i64 0])).run Tryd.prog w = .ok (.bool true) w := fun w => by rw [run_neFault, hne]; rfl
 clear hUn h hne
 go_enter Tryd.func47, Tryd.ntmps47
 go_wp2_with fail
 refine (check_un (HUn.out.mono (by repeat (first | (with_reducible first | exact bR _ _ | exact bH ‹_› | refine bD ?_ | refine bN ?_ _ | refine bS ?_ ?_ _ | refine bA ?_ ?_ _ | refine bT hb3 ?_ ?_ | refine bT hb5 ?_ ?_ | refine bT hb4 ?_ ?_) | omega | (simp; omega) | simp)))).mono ?_
 rintro e w2 ⟨rfl, hb2⟩
 have HB1 : Hid (Below w.heap.size w w2) := Below.trans (by repeat (first | (with_reducible first | exact bR _ _ | exact bH ‹_› | refine bD ?_ | refine bN ?_ _ | refine bS ?_ ?_ _ | refine bA ?_ ?_ _ | refine bT hb3 ?_ ?_ | refine bT hb5 ?_ ?_ | refine bT hb4 ?_ ?_) | omega | (simp; omega) | simp)) (hb2.mono (by simp; omega))
 have hzz := hb2.size
 simp at hzz
 have hz1 : w.heap.size + 1 < w2.heap.size := by omega
 have hz2 : w.heap.size + 1 + 1 < w2.heap.size := by omega
 have h2b : w2.heap[w.heap.size + 1]? = some (.cells #[.int .i64 0, .int .i64 0, .slice none 0 0, .int .i64 0] 65 (0, 0)) := heap_below hb2 (k := w.heap.size + 1) (by simp) (heap_step (heap_at (by simp)))
 have h2c : w2.heap[w.heap.size + 1 + 1]? = some (.cells #[.int .i64 0, .int .i64 0] 28 (0, 0)) := heap_below hb2 (k := w.heap.size + 1 + 1) (by simp) (heap_at (by simp))
 obtain ⟨g0c, g0f⟩ := blk h2b
 obtain ⟨g1c, g1f⟩ := blk h2c
 have HA := hidI h2b
 have HC := hidI h2c
 clear hb2 h2b h2c
 go_wp2_with fail
 go_region
 all_goals go_wp2
 all_goals
  obtain ⟨WF, hWF⟩ : ∃ WF, WF = tell6 w2 (w.heap.size + 1) (w.heap.size + 1 + 1) (.int .i64 0) (.int .i64 0) (.slice none 0 0) (.int .i64 0) (.int .i64 (chk u).1) (.int .i64 (chk u).2) := ⟨_, rfl⟩
  obtain ⟨q2, q3, _, hb6, z6, z7⟩ := tell6_spec (show w.heap.size + 1 ≠ w.heap.size + 1 + 1 by omega) HA.out HC.out (.int .i64 0) (.int .i64 0) (.slice none 0 0) (.int .i64 0) (.int .i64 (chk u).1) (.int .i64 (chk u).2) (B := w.heap.size) (by omega) (by omega)
  rw [← hWF] at q2 q3 hb6 z6 z7
  unfold tell6 at hWF
  clear g0c g0f g1c g1f
  rw [← hWF]
  have HB2 : Hid (Below w.heap.size w WF) := HB1.out.trans hb6
  refine bodyPost_ret (v := .tuple #[.slice none 0 0, noOut, .agg #[.int .i64 (chk u).1, .int .i64 (chk u).2]]) ?_ rfl ⟨rfl, by repeat (first | (with_reducible first | exact bR _ _ | exact bH ‹_› | refine bD ?_ | refine bN ?_ _ | refine bS ?_ ?_ _ | refine bA ?_ ?_ _ | refine bT hb3 ?_ ?_ | refine bT hb5 ?_ ?_ | refine bT hb4 ?_ ?_) | omega | (simp; omega) | simp)⟩
  have z8 : w.heap.size + 1 < WF.heap.size + 1 := by omega
  have z9 : w.heap.size + 1 + 1 < WF.heap.size + 1 := by omega
  simp [results, Tryd.results47, go_sem, q2, q3, z6, z7]
set_option maxRecDepth 100000 in
set_option maxHeartbeats 1000000 in
theorem counts_many {u : UniL} {gp fp : Option Addr} {gc fc : Nat} {w : World} (hUn : UnA u gp fp w) (ip : Option Addr) (il ic : Nat) (fuel : Int) (h : (chk u).1 = 0) (hil : 30 < il) :
  Calls Tryd.prog 47 #[.agg #[.slice gp u.globals.length gc, .slice fp u.funcs.length fc], .slice ip il ic, .int .i64 fuel] w fun e w' => e = .returned (.tuple #[.slice none 0 0, noOut, .agg #[.int .i64 2, .int .i64 (-1)]]) ∧ Below w.heap.size w w' := by
 have HUn := hidI hUn
 have hne : ((chk u).1 == 0 && (chk u).2 == 0) = true := by rw [(chk_ok h).1]; rfl
 have hq : ∀ w, (binOp .neq 28 (.agg #[.int .i64 (chk u).1, .int .i64 (chk u).2]) (.agg #[.int .i64 0, .int .i64 0])).run Tryd.prog w = .ok (.bool false) w := fun w => by rw [run_neFault, hne]; rfl
 clear hUn h hne
 go_enter Tryd.func47, Tryd.ntmps47
 go_wp2_with fail
 refine (check_un (HUn.out.mono (by repeat (first | (with_reducible first | exact bR _ _ | exact bH ‹_› | refine bD ?_ | refine bN ?_ _ | refine bS ?_ ?_ _ | refine bA ?_ ?_ _ | refine bT hb3 ?_ ?_ | refine bT hb5 ?_ ?_ | refine bT hb4 ?_ ?_) | omega | (simp; omega) | simp)))).mono ?_
 rintro e w2 ⟨rfl, hb2⟩
 have HB1 : Hid (Below w.heap.size w w2) := Below.trans (by repeat (first | (with_reducible first | exact bR _ _ | exact bH ‹_› | refine bD ?_ | refine bN ?_ _ | refine bS ?_ ?_ _ | refine bA ?_ ?_ _ | refine bT hb3 ?_ ?_ | refine bT hb5 ?_ ?_ | refine bT hb4 ?_ ?_) | omega | (simp; omega) | simp)) (hb2.mono (by simp; omega))
 have hzz := hb2.size
 simp at hzz
 have hz1 : w.heap.size + 1 < w2.heap.size := by omega
 have hz2 : w.heap.size + 1 + 1 < w2.heap.size := by omega
 have h2b : w2.heap[w.heap.size + 1]? = some (.cells #[.int .i64 0, .int .i64 0, .slice none 0 0, .int .i64 0] 65 (0, 0)) := heap_below hb2 (k := w.heap.size + 1) (by simp) (heap_step (heap_at (by simp)))
 have h2c : w2.heap[w.heap.size + 1 + 1]? = some (.cells #[.int .i64 0, .int .i64 0] 28 (0, 0)) := heap_below hb2 (k := w.heap.size + 1 + 1) (by simp) (heap_at (by simp))
 have hz3 : w.heap.size + 1 < w2.heap.size + 1 := by omega
 have hz4 : w.heap.size + 1 + 1 < w2.heap.size + 1 := by omega
 have hz5 : w.heap.size + 1 < w2.heap.size + 1 + 1 := by omega
 have hz6 : w.heap.size + 1 + 1 < w2.heap.size + 1 + 1 := by omega
 obtain ⟨g0c, g0f⟩ := blk h2b
 obtain ⟨g1c, g1f⟩ := blk h2c
 have HA := hidI h2b
 have HC := hidI h2c
 clear hb2 h2b h2c
 go_wp2_with fail
 refine (cfault_any _ _ _).mono ?_
 rintro e w3 ⟨rfl, rfl⟩
 go_wp2_with fail
 all_goals
  obtain ⟨WF, hWF⟩ : ∃ WF, WF = tell6 w2 (w.heap.size + 1) (w.heap.size + 1 + 1) (.int .i64 0) (.int .i64 0) (.slice none 0 0) (.int .i64 0) (.int .i64 2) (.int .i64 (-1)) := ⟨_, rfl⟩
  obtain ⟨q2, q3, _, hb6, z6, z7⟩ := tell6_spec (show w.heap.size + 1 ≠ w.heap.size + 1 + 1 by omega) HA.out HC.out (.int .i64 0) (.int .i64 0) (.slice none 0 0) (.int .i64 0) (.int .i64 2) (.int .i64 (-1)) (B := w.heap.size) (by omega) (by omega)
  rw [← hWF] at q2 q3 hb6 z6 z7
  unfold tell6 at hWF
  clear g0c g0f g1c g1f
  rw [← hWF]
  have HB2 : Hid (Below w.heap.size w WF) := HB1.out.trans hb6
  refine bodyPost_ret (v := .tuple #[.slice none 0 0, noOut, .agg #[.int .i64 2, .int .i64 (-1)]]) ?_ rfl ⟨rfl, by repeat (first | (with_reducible first | exact bR _ _ | exact bH ‹_› | refine bD ?_ | refine bN ?_ _ | refine bS ?_ ?_ _ | refine bA ?_ ?_ _ | refine bT hb3 ?_ ?_ | refine bT hb5 ?_ ?_ | refine bT hb4 ?_ ?_) | omega | (simp; omega) | simp)⟩
  have z8 : w.heap.size + 1 < WF.heap.size + 1 := by omega
  have z9 : w.heap.size + 1 + 1 < WF.heap.size + 1 := by omega
  simp [results, Tryd.results47, go_sem, q2, q3, z6, z7, z8, z9]
set_option maxRecDepth 100000 in
set_option maxHeartbeats 1000000 in
theorem counts_far {u : UniL} {gp fp : Option Addr} {gc fc : Nat} {w : World} (hUn : UnA u gp fp w) (ip : Option Addr) (il ic : Nat) (fuel : Int) (h : (chk u).1 = 0) (hil : il ≤ 30) (hfu : wthn fuel 0 100000 = false) :
  Calls Tryd.prog 47 #[.agg #[.slice gp u.globals.length gc, .slice fp u.funcs.length fc], .slice ip il ic, .int .i64 fuel] w fun e w' => e = .returned (.tuple #[.slice none 0 0, noOut, .agg #[.int .i64 3, .int .i64 (-1)]]) ∧ Below w.heap.size w w' := by
 have HUn := hidI hUn
 have HWt := hidI hfu
 have hne : ((chk u).1 == 0 && (chk u).2 == 0) = true := by rw [(chk_ok h).1]; rfl
 have hq : ∀ w, (binOp .neq 28 (.agg #[.int .i64 (chk u).1, .int .i64 (chk u).2]) (.agg #[.int .i64 0, .int .i64 0])).run Tryd.prog w = .ok (.bool false) w := fun w => by rw [run_neFault, hne]; rfl
 clear hUn h hne hfu
 go_enter Tryd.func47, Tryd.ntmps47
 go_wp2_with fail
 refine (check_un (HUn.out.mono (by repeat (first | (with_reducible first | exact bR _ _ | exact bH ‹_› | refine bD ?_ | refine bN ?_ _ | refine bS ?_ ?_ _ | refine bA ?_ ?_ _ | refine bT hb3 ?_ ?_ | refine bT hb5 ?_ ?_ | refine bT hb4 ?_ ?_) | omega | (simp; omega) | simp)))).mono ?_
 rintro e w2 ⟨rfl, hb2⟩
 have HB1 : Hid (Below w.heap.size w w2) := Below.trans (by repeat (first | (with_reducible first | exact bR _ _ | exact bH ‹_› | refine bD ?_ | refine bN ?_ _ | refine bS ?_ ?_ _ | refine bA ?_ ?_ _ | refine bT hb3 ?_ ?_ | refine bT hb5 ?_ ?_ | refine bT hb4 ?_ ?_) | omega | (simp; omega) | simp)) (hb2.mono (by simp; omega))
 have hzz := hb2.size
 simp at hzz
 have hz1 : w.heap.size + 1 < w2.heap.size := by omega
 have hz2 : w.heap.size + 1 + 1 < w2.heap.size := by omega
 have h2b : w2.heap[w.heap.size + 1]? = some (.cells #[.int .i64 0, .int .i64 0, .slice none 0 0, .int .i64 0] 65 (0, 0)) := heap_below hb2 (k := w.heap.size + 1) (by simp) (heap_step (heap_at (by simp)))
 have h2c : w2.heap[w.heap.size + 1 + 1]? = some (.cells #[.int .i64 0, .int .i64 0] 28 (0, 0)) := heap_below hb2 (k := w.heap.size + 1 + 1) (by simp) (heap_at (by simp))
 have hz3 : w.heap.size + 1 < w2.heap.size + 1 := by omega
 have hz4 : w.heap.size + 1 + 1 < w2.heap.size + 1 := by omega
 have hz5 : w.heap.size + 1 < w2.heap.size + 1 + 1 := by omega
 have hz6 : w.heap.size + 1 + 1 < w2.heap.size + 1 + 1 := by omega
 obtain ⟨g0c, g0f⟩ := blk h2b
 obtain ⟨g1c, g1f⟩ := blk h2c
 have HA := hidI h2b
 have HC := hidI h2c
 clear hb2 h2b h2c
 go_wp2_with fail
 refine (within_any _ _ _ _).mono ?_
 rw [HWt.out]
 rintro e w3 ⟨rfl, rfl⟩
 go_wp2_with fail
 refine (cfault_any _ _ _).mono ?_
 rintro e w3 ⟨rfl, rfl⟩
 go_wp2_with fail
 all_goals
  obtain ⟨WF, hWF⟩ : ∃ WF, WF = tell6 w2 (w.heap.size + 1) (w.heap.size + 1 + 1) (.int .i64 0) (.int .i64 0) (.slice none 0 0) (.int .i64 0) (.int .i64 3) (.int .i64 (-1)) := ⟨_, rfl⟩
  obtain ⟨q2, q3, _, hb6, z6, z7⟩ := tell6_spec (show w.heap.size + 1 ≠ w.heap.size + 1 + 1 by omega) HA.out HC.out (.int .i64 0) (.int .i64 0) (.slice none 0 0) (.int .i64 0) (.int .i64 3) (.int .i64 (-1)) (B := w.heap.size) (by omega) (by omega)
  rw [← hWF] at q2 q3 hb6 z6 z7
  unfold tell6 at hWF
  clear g0c g0f g1c g1f
  rw [← hWF]
  have HB2 : Hid (Below w.heap.size w WF) := HB1.out.trans hb6
  refine bodyPost_ret (v := .tuple #[.slice none 0 0, noOut, .agg #[.int .i64 3, .int .i64 (-1)]]) ?_ rfl ⟨rfl, by repeat (first | (with_reducible first | exact bR _ _ | exact bH ‹_› | refine bD ?_ | refine bN ?_ _ | refine bS ?_ ?_ _ | refine bA ?_ ?_ _ | refine bT hb3 ?_ ?_ | refine bT hb5 ?_ ?_ | refine bT hb4 ?_ ?_) | omega | (simp; omega) | simp)⟩
  have z8 : w.heap.size + 1 < WF.heap.size + 1 := by omega
  have z9 : w.heap.size + 1 + 1 < WF.heap.size + 1 := by omega
  simp [results, Tryd.results47, go_sem, q2, q3, z6, z7, z8, z9]
def runF (u : UniL) (n : Nat) (fuel : Int) : Int × Int := if (chk u).1 ≠ 0 then chk u else if 30 < n then (2, -1) else if wthn fuel 0 100000 = false then (3, -1) else (0, 0)
def noS : StL := ⟨[], [], 0, 0, [], 0, [], fun _ _ => 0⟩
def runO (u : UniL) (inp : List Int) (fuel : Int) : StL := if (runF u inp.length fuel).1 = 0 then runU u inp fuel.toNat else noS
theorem runF_zero {u : UniL} {n : Nat} {fuel : Int} (h : (runF u n fuel).1 = 0) : (chk u).1 = 0 ∧ n ≤ 30 ∧ (0 ≤ fuel ∧ fuel ≤ 100000) ∧ (runF u n fuel).2 = 0 := by
 unfold runF at h ⊢
 by_cases h1 : (chk u).1 ≠ 0
 ·rw [if_pos h1] at h; exact absurd h h1
 rw [if_neg h1] at h ⊢
 by_cases h2 : 30 < n
 ·rw [if_pos h2] at h; cases h
 rw [if_neg h2] at h ⊢
 by_cases h3 : wthn fuel 0 100000 = false
 ·rw [if_pos h3] at h; cases h
 rw [if_neg h3]
 refine ⟨by omega, by omega, ?_, rfl⟩
 have h4 : wthn fuel 0 100000 = true := by simpa using h3
 unfold wthn at h4
 exact of_decide_eq_true h4
theorem counts_any {u : UniL} {gp fp : Option Addr} {gc fc : Nat} {w : World} (hUn : UnA u gp fp w) (inp : List Int) (ip : Option Addr) (ic : Nat) (fuel : Int) (hI : SliceAt w 1 IntR ip inp) (hic : inp.length ≤ ic) (hip : ip = none → ic = 0) :
  Calls Tryd.prog 47 #[.agg #[.slice gp u.globals.length gc, .slice fp u.funcs.length fc], .slice ip inp.length ic, .int .i64 fuel] w fun e w' => ∃ cp cl cc p c, e = .returned (.tuple #[.slice cp cl cc, .agg #[.int .i64 (runO u inp fuel).state, .int .i64 (runO u inp fuel).value, .slice p (runO u inp fuel).outs.length c, .int .i64 (runO u inp fuel).steps], .agg #[.int .i64 (runF u inp.length fuel).1, .int .i64 (runF u inp.length fuel).2]]) ∧
   ((runF u inp.length fuel).1 = 0 → ∃ CT, cp = some ⟨CT, 0, none⟩ ∧ cl = u.funcs.length ∧ RunAt u w' (runO u inp fuel) w.heap.size CT p) ∧ SliceAt w' 1 IntR p (runO u inp fuel).outs ∧ (∀ a, p = some a → w.heap.size ≤ a.block) ∧ Below w.heap.size w w' := by
 by_cases h : (runF u inp.length fuel).1 = 0
 ·obtain ⟨h1, h2, ⟨h3, h4⟩, h5⟩ := runF_zero h
  obtain ⟨n, rfl⟩ := Int.eq_ofNat_of_zero_le h3
  have hR : runO u inp (n : Int) = runU u inp n := by unfold runO; rw [if_pos h]; rfl
  refine (counts_ok u gp fp gc fc inp ip ic n w hUn.gl hUn.glo hUn.fl hUn.fns hUn.ways h1 (U64.of hUn) h2 (fun x hx => (slice_mem hI hx).elim fun _ h => h.2) hI hic hip (by omega)).mono ?_
  rintro e w' ⟨CT, cc, p, c, rfl, hA, hb⟩
  rw [hR, h, h5]
  exact ⟨_, _, cc, p, c, rfl, fun _ => ⟨CT, rfl, rfl, hA⟩, hA.outs, hA.low, hb⟩
 ·have hR : runO u inp fuel = noS := by unfold runO; rw [if_neg h]
  rw [hR]
  have hfin : ∀ e w', e = Ending.returned (.tuple #[.slice none 0 0, noOut, .agg #[.int .i64 (runF u inp.length fuel).1, .int .i64 (runF u inp.length fuel).2]]) ∧ Below w.heap.size w w' → ∃ cp cl cc p c, e = .returned (.tuple #[.slice cp cl cc, .agg #[.int .i64 noS.state, .int .i64 noS.value, .slice p noS.outs.length c, .int .i64 noS.steps], .agg #[.int .i64 (runF u inp.length fuel).1, .int .i64 (runF u inp.length fuel).2]]) ∧
   ((runF u inp.length fuel).1 = 0 → ∃ CT, cp = some ⟨CT, 0, none⟩ ∧ cl = u.funcs.length ∧ RunAt u w' noS w.heap.size CT p) ∧ SliceAt w' 1 IntR p noS.outs ∧ (∀ a, p = some a → w.heap.size ≤ a.block) ∧ Below w.heap.size w w' := fun e w' h2 => ⟨none, 0, 0, none, 0, h2.1, fun h0 => absurd h0 h, .inl rfl, (fun _ e => by cases e), h2.2⟩
  by_cases h1 : (chk u).1 ≠ 0
  ·have e : runF u inp.length fuel = chk u := by unfold runF; rw [if_pos h1]
   rw [e] at hfin ⊢
   exact (counts_bad hUn ip inp.length ic fuel h1).mono hfin
  have h1' : (chk u).1 = 0 := by omega
  by_cases h2 : 30 < inp.length
  ·have e : runF u inp.length fuel = (2, -1) := by unfold runF; rw [if_neg h1, if_pos h2]
   rw [e] at hfin ⊢
   exact (counts_many hUn ip inp.length ic fuel h1' h2).mono hfin
  by_cases h3 : wthn fuel 0 100000 = false
  ·have e : runF u inp.length fuel = (3, -1) := by unfold runF; rw [if_neg h1, if_neg h2, if_pos h3]
   rw [e] at hfin ⊢
   exact (counts_far hUn ip inp.length ic fuel h1' (by omega) h3).mono hfin
  ·exfalso
   apply h
   unfold runF
   rw [if_neg h1, if_neg h2, if_neg h3]

set_option maxRecDepth 100000 in
set_option maxHeartbeats 1000000 in
theorem do_any {u : UniL} {gp fp : Option Addr} {gc fc : Nat} {w : World} (hUn : UnA u gp fp w) (inp : List Int) (ip : Option Addr) (ic : Nat) (fuel : Int) (hI : SliceAt w 1 IntR ip inp) (hic : inp.length ≤ ic) (hip : ip = none → ic = 0) :
  Calls Tryd.prog 20 #[.agg #[.slice gp u.globals.length gc, .slice fp u.funcs.length fc], .slice ip inp.length ic, .int .i64 fuel] w fun e w' => ∃ p c, e = .returned (.tuple #[.agg #[.int .i64 (runO u inp fuel).state, .int .i64 (runO u inp fuel).value, .slice p (runO u inp fuel).outs.length c, .int .i64 (runO u inp fuel).steps], .agg #[.int .i64 (runF u inp.length fuel).1, .int .i64 (runF u inp.length fuel).2]]) ∧
   SliceAt w' 1 IntR p (runO u inp fuel).outs ∧ (∀ a, p = some a → w.heap.size ≤ a.block) ∧ Below w.heap.size w w' := by
 have HUn := hidI hUn
 have HI := hidI hI
 clear hUn hI
 go_enter Tryd.func20, Tryd.ntmps20
 go_wp2_with fail
 refine (counts_any (HUn.out.mono (by repeat (first | (with_reducible first | exact bR _ _ | exact bH ‹_› | refine bD ?_ | refine bN ?_ _ | refine bS ?_ ?_ _ | refine bA ?_ ?_ _ | refine bT hb3 ?_ ?_ | refine bT hb5 ?_ ?_ | refine bT hb4 ?_ ?_) | omega | (simp; omega) | simp))) inp ip ic fuel (HI.out.mono (w' := ((w.alloc _).alloc _).alloc _) (by repeat (first | (with_reducible first | exact bR _ _ | exact bH ‹_› | refine bD ?_ | refine bN ?_ _ | refine bS ?_ ?_ _ | refine bA ?_ ?_ _ | refine bT hb3 ?_ ?_ | refine bT hb5 ?_ ?_ | refine bT hb4 ?_ ?_) | omega | (simp; omega) | simp)) (by omega) fun _ _ g => g) hic hip).mono ?_
 rintro e w2 ⟨cp, cl, cc, p, c, rfl, _, hS, hlow, hb2⟩
 have HB1 : Hid (Below w.heap.size w w2) := Below.trans (by repeat (first | (with_reducible first | exact bR _ _ | exact bH ‹_› | refine bD ?_ | refine bN ?_ _ | refine bS ?_ ?_ _ | refine bA ?_ ?_ _ | refine bT hb3 ?_ ?_ | refine bT hb5 ?_ ?_ | refine bT hb4 ?_ ?_) | omega | (simp; omega) | simp)) (hb2.mono (by simp; omega))
 have hzz := hb2.size
 simp at hzz
 have hz1 : w.heap.size + 1 < w2.heap.size := by omega
 have hz2 : w.heap.size + 1 + 1 < w2.heap.size := by omega
 have h2b : w2.heap[w.heap.size + 1]? = some (.cells #[.int .i64 0, .int .i64 0, .slice none 0 0, .int .i64 0] 65 (0, 0)) := heap_below hb2 (k := w.heap.size + 1) (by simp) (heap_step (heap_at (by simp)))
 have h2c : w2.heap[w.heap.size + 1 + 1]? = some (.cells #[.int .i64 0, .int .i64 0] 28 (0, 0)) := heap_below hb2 (k := w.heap.size + 1 + 1) (by simp) (heap_at (by simp))
 have hz3 : w.heap.size + 1 < w2.heap.size + 1 := by omega
 have hz4 : w.heap.size + 1 + 1 < w2.heap.size + 1 := by omega
 have hz5 : w.heap.size + 1 < w2.heap.size + 1 + 1 := by omega
 have hz6 : w.heap.size + 1 + 1 < w2.heap.size + 1 + 1 := by omega
 obtain ⟨g0c, g0f⟩ := blk h2b
 obtain ⟨g1c, g1f⟩ := blk h2c
 have HA := hidI h2b
 have HC := hidI h2c
 have HS := hidI hS
 have HL := hidI hlow
 clear hb2 h2b h2c hS hlow
 go_wp2_with fail
 go_region
 all_goals go_wp2
 all_goals
  obtain ⟨WF, hWF⟩ : ∃ WF, WF = tell6 w2 (w.heap.size + 1) (w.heap.size + 1 + 1) (.int .i64 (runO u inp fuel).state) (.int .i64 (runO u inp fuel).value) (.slice p (runO u inp fuel).outs.length c) (.int .i64 (runO u inp fuel).steps) (.int .i64 (runF u inp.length fuel).1) (.int .i64 (runF u inp.length fuel).2) := ⟨_, rfl⟩
  obtain ⟨q2, q3, q4, hb6, z6, z7⟩ := tell6_spec (show w.heap.size + 1 ≠ w.heap.size + 1 + 1 by omega) HA.out HC.out (.int .i64 (runO u inp fuel).state) (.int .i64 (runO u inp fuel).value) (.slice p (runO u inp fuel).outs.length c) (.int .i64 (runO u inp fuel).steps) (.int .i64 (runF u inp.length fuel).1) (.int .i64 (runF u inp.length fuel).2) (B := w.heap.size) (by omega) (by omega)
  rw [← hWF] at q2 q3 q4 hb6 z6 z7
  unfold tell6 at hWF
  clear g0c g0f g1c g1f
  rw [← hWF]
  have HB2 : Hid (Below w.heap.size w WF) := HB1.out.trans hb6
  refine bodyPost_ret (v := .tuple #[.agg #[.int .i64 (runO u inp fuel).state, .int .i64 (runO u inp fuel).value, .slice p (runO u inp fuel).outs.length c, .int .i64 (runO u inp fuel).steps], .agg #[.int .i64 (runF u inp.length fuel).1, .int .i64 (runF u inp.length fuel).2]]) ?_ rfl ⟨p, c, rfl, ?_, ?_, by repeat (first | (with_reducible first | exact bR _ _ | exact bH ‹_› | refine bD ?_ | refine bN ?_ _ | refine bS ?_ ?_ _ | refine bA ?_ ?_ _ | refine bT hb3 ?_ ?_ | refine bT hb5 ?_ ?_ | refine bT hb4 ?_ ?_) | omega | (simp; omega) | simp)⟩
  ·have z8 : w.heap.size + 1 < WF.heap.size + 1 := by omega
   have z9 : w.heap.size + 1 + 1 < WF.heap.size + 1 := by omega
   have z10 : w.heap.size + 1 < WF.heap.size + 1 + 1 := by omega
   have z11 : w.heap.size + 1 + 1 < WF.heap.size + 1 + 1 := by omega
   simp [results, Tryd.results20, go_sem, q2, q3, z6, z7, z8, z9]
  ·have hS2 := slice_block (w' := WF) HS.out fun a e => by
    have h1 := HL.out a e
    simp at h1
    exact q4 a.block (by omega) (by omega)
   exact hS2.mono (by repeat (first | (with_reducible first | exact bR _ _ | exact bH ‹_› | refine bD ?_ | refine bN ?_ _ | refine bS ?_ ?_ _ | refine bA ?_ ?_ _ | refine bT hb3 ?_ ?_ | refine bT hb5 ?_ ?_ | refine bT hb4 ?_ ?_) | omega | (simp; omega) | simp)) (by omega) fun _ _ g => g
  ·intro a e
   have h1 := HL.out a e
   simp at h1
   omega
end Go.Proofs.YtdjamkinijhjoaaDoor
namespace Go.Proofs.YtdjamkinijhjoaaDoor
open Go.RowKit

structure WSt (A : Blks) (W : World) (bb : Nat → Nat) (fs : List FunL) (K : Nat) (r : Int) (i b : Nat) (w' : World) : Prop where
 kept : Kept A W w'
 same : ∀ k m j, k < fs.length → j < 6 → (j ≠ 1 ∨ i < k ∨ (k = i ∧ b ≤ m)) → w'.cell? ⟨bb k, m * 6 + j, none⟩ = W.cell? ⟨bb k, m * 6 + j, none⟩
 froz : ∀ k o, k < fs.length → w'.frozen? ⟨bb k, o, none⟩ = false
 done : ∀ k m (hk : k < fs.length) (hm : m < fs[k].blocks.length), (k < i ∨ (k = i ∧ m < b)) → ∃ q c, w'.cell? ⟨bb k, m * 6 + 1, none⟩ = some (.slice q (watB (decide (k = K)) r fs[k].blocks[m]).list.length c) ∧
  (q = none → (watB (decide (k = K)) r fs[k].blocks[m]).list.length = 0 ∧ c = 0) ∧ (watB (decide (k = K)) r fs[k].blocks[m]).list.length ≤ c ∧ ∀ W', Kept A w' W' → SliceAt W' 8 (InsR W') q (watB (decide (k = K)) r fs[k].blocks[m]).list
theorem WSt.start {A : Blks} {W : World} {bb : Nat → Nat} {fs : List FunL} {K : Nat} {r : Int} {G : Nat} (h : UniN A W G bb fs) : WSt A W bb fs K r 0 0 W :=
 ⟨Kept.refl _ _, fun _ _ _ _ _ _ => rfl, fun k o hk => (h.fn k hk).froz o, fun k m hk hm hc => by omega⟩
theorem WSt.next {A : Blks} {W : World} {bb : Nat → Nat} {fs : List FunL} {K : Nat} {r : Int} {G : Nat} {i b : Nat} {w1 w2 : World} (h : WSt A W bb fs K r i b w1) (hU : UniN A W G bb fs) (hb : Below w1.heap.size w1 w2) : WSt A W bb fs K r i b w2 := by
 have hlt : ∀ k, k < fs.length → bb k < w1.heap.size := fun k hk => Nat.lt_of_lt_of_le (hU.fn k hk).lt h.kept.size
 refine ⟨h.kept.trans (Kept.of_below (S := fun _ => False) hb) (fun _ _ e => e.elim), fun k m j hk hj hc => (World.cell?_of_block (hb.block _ (hlt k hk))).trans (h.same k m j hk hj hc), fun k o hk => (World.frozen?_of_block (hb.block _ (hlt k hk))).trans (h.froz k o hk), fun k m hk hm hc => ?_⟩
 obtain ⟨q, c, h1, h2, h3, h4⟩ := h.done k m hk hm hc
 exact ⟨q, c, (World.cell?_of_block (hb.block _ (hlt k hk))).trans h1, h2, h3, fun W' hk' => h4 W' ((Kept.of_below (S := A) hb).trans hk' (fun _ _ e => e))⟩
theorem WSt.put {A : Blks} {W : World} {bb : Nat → Nat} {fs : List FunL} {K : Nat} {r : Int} {G : Nat} {i b : Nat} {w1 w2 : World} (h : WSt A W bb fs K r i b w1) (hU : UniN A W G bb fs) (hb : Below w1.heap.size w1 w2) (hi : i < fs.length) (hbl : b < fs[i].blocks.length)
  {v : Value} {S : Blks} (hO : SlO 53 8 (InsE A W) w2 v (watB (decide (i = K)) r fs[i].blocks[b]).list S) (hS : ∀ g, S g → w1.heap.size ≤ g) : WSt A W bb fs K r i (b + 1) (w2.setCell ⟨bb i, b * 6 + 1, none⟩ v) := by
 have hn := h.next hU hb
 have hA := (hU.fn i hi).inA
 have hlt : ∀ k, k < fs.length → bb k < w2.heap.size := fun k hk => Nat.lt_of_lt_of_le (hU.fn k hk).lt hn.kept.size
 have hk2 : Kept A w2 (w2.setCell ⟨bb i, b * 6 + 1, none⟩ v) := (Kept.refl A w2).setCell hA v
 have hcell : ∀ k m j, k < fs.length → j < 6 → ¬(k = i ∧ m = b ∧ j = 1) → (w2.setCell ⟨bb i, b * 6 + 1, none⟩ v).cell? ⟨bb k, m * 6 + j, none⟩ = w2.cell? ⟨bb k, m * 6 + j, none⟩ := fun k m j hk hj hne => by
  refine World.cell?_setCell_other _ _ _ _ fun e => ?_
  injection e with e1 e2
  have := hU.inj i k hi hk e1
  exact hne ⟨this.symm, by omega, by omega⟩
 have hself : (w2.setCell ⟨bb i, b * 6 + 1, none⟩ v).cell? ⟨bb i, b * 6 + 1, none⟩ = some v := by
  obtain ⟨v1, v2, v3, hB⟩ := (hU.fn i hi).blk b hbl
  have hc := hB.cell 1 (by omega)
  have h1 := hn.same i b 1 hi (by omega) (.inr (.inr ⟨rfl, Nat.le_refl _⟩))
  exact World.cell?_setCell_same _ _ _ (h1.trans hc)
 obtain ⟨p, c, hv, hpn, hpc, hread⟩ := hO.read (R' := InsC A W) (locInsE A W) (by omega) (fun _ _ _ hh => hh.1)
 refine ⟨hn.kept.setCell hA v, fun k m j hk hj hc => ?_, fun k o hk => ?_, fun k m hk hm hc => ?_⟩
 ·rw [hcell k m j hk hj (by omega)]
  exact hn.same k m j hk hj (by omega)
 ·rw [World.frozen?_setCell]
  exact hn.froz k o hk
 ·by_cases e : k = i ∧ m = b
  ·obtain ⟨rfl, rfl⟩ := e
   refine ⟨p, c, by rw [hself, hv], hpn, hpc, fun W' hk' => ?_⟩
   have hkk := hk2.trans hk' (fun _ _ e => e)
   have hO' := hO.kept (locInsE A W) hkk (fun g hg hs => by
    have := hU.isA g hg
    have := hS _ hs
    have := h.kept.size
    omega)
   obtain ⟨p2, c2, hv2, _, _, hr2⟩ := hO'.read (R' := InsR W') (locInsE A W) (by omega) (fun _ _ _ hh => hh.1.read (hn.kept.trans hkk (fun _ _ e => e)))
   rw [hv] at hv2
   injection hv2 with hp2 _ _
   rw [hp2]
   exact hr2
  ·obtain ⟨q, c', h1, h2, h3, h4⟩ := hn.done k m hk hm (by omega)
   exact ⟨q, c', (hcell k m 1 hk (by omega) (fun e2 => e ⟨e2.1, e2.2.1⟩)).trans h1, h2, h3, fun W' hk' => h4 W' (hk2.trans hk' (fun _ _ e => e))⟩
theorem WSt.up {A : Blks} {W : World} {bb : Nat → Nat} {fs : List FunL} {K : Nat} {r : Int} {i : Nat} {w1 : World} (hi : i < fs.length) (h : WSt A W bb fs K r i fs[i].blocks.length w1) : WSt A W bb fs K r (i + 1) 0 w1 := by
 refine ⟨h.kept, fun k m j hk hj hc => h.same k m j hk hj (by omega), h.froz, fun k m hk hm hc => h.done k m hk hm ?_⟩
 by_cases e : k = i
 ·subst e; exact .inr ⟨rfl, hm⟩
 ·left; omega
theorem WSt.poke {A : Blks} {W : World} {bb : Nat → Nat} {fs : List FunL} {K : Nat} {r : Int} {i b : Nat} {w1 : World} (h : WSt A W bb fs K r i b w1) {a : Addr} (ha : A a.block) (hn : ∀ k, k < fs.length → bb k ≠ a.block) (v : Value) : WSt A W bb fs K r i b (w1.setCell a v) := by
 have hc : ∀ k o, k < fs.length → (w1.setCell a v).cell? ⟨bb k, o, none⟩ = w1.cell? ⟨bb k, o, none⟩ := fun k o hk => World.cell?_of_block (Go.Deep.blk_setCell_other w1 a v (bb k) (hn k hk))
 have hk2 : Kept A w1 (w1.setCell a v) := (Kept.refl A w1).setCell ha v
 refine ⟨h.kept.setCell ha v, fun k m j hk hj hcc => (hc k _ hk).trans (h.same k m j hk hj hcc), fun k o hk => by rw [World.frozen?_setCell]; exact h.froz k o hk, fun k m hk hm hcc => ?_⟩
 obtain ⟨q, c, h1, h2, h3, h4⟩ := h.done k m hk hm hcc
 exact ⟨q, c, (hc k _ hk).trans h1, h2, h3, fun W' hk' => h4 W' (hk2.trans hk' (fun _ _ e => e))⟩
theorem WSt.read {A : Blks} {W : World} {bb : Nat → Nat} {u : UniL} {K : Nat} {r : Int} {G : Nat} {w1 : World} (h : WSt A W bb u.funcs K r u.funcs.length 0 w1) (hU : UniN A W G bb u.funcs) (hm : ∀ k (hk : k < u.funcs.length) m (hm : m < (u.funcs[k]).blocks.length), (watB (decide (k = K)) r (u.funcs[k]).blocks[m]).list.length * 80 ≤ reachBytes) :
  SliceAt w1 4 (FunR w1) (some ⟨G, 0, none⟩) (watU u K r).funcs := by
 refine .inr ⟨G, 0, rfl, fun k hk => ?_⟩
 rw [wat_len] at hk
 have hF := hU.fn k hk
 have hget : (watU u K r).funcs[k]'(by rw [wat_len]; exact hk) = watF (decide (k = K)) r u.funcs[k] := by
  have h1 := wat_fn (k := K) (r := r) hk
  rw [fnU_get (by rw [wat_len]; exact hk), fnU_get hk] at h1
  exact h1
 rw [hget]
 obtain ⟨cb, hcb, hc⟩ := hF.cell
 refine ⟨_, rfl, fun j hj => ?_, .slice (some ⟨bb k, 0, none⟩) (u.funcs[k]).blocks.length cb, rfl, hF.name, hF.p64, hF.r64, ?_⟩
 ·rw [Nat.zero_add, (h.kept.cell (p := ⟨G, k * 4 + j, none⟩) hU.g hU.gA), hc j hj]
  rfl
 ·have hlen : (watF (decide (k = K)) r u.funcs[k]).blocks.length = (u.funcs[k]).blocks.length := by unfold watF; simp
  have hn1 : 0 < (u.funcs[k]).blocks.length ∨ (u.funcs[k]).blocks.length = 0 := by omega
  refine ⟨some ⟨bb k, 0, none⟩, cb, by rw [hlen], fun e => (by cases e), by rw [hlen]; exact hcb, by rw [hlen]; exact hF.bd, .inr ⟨bb k, 0, rfl, fun m hm' => ?_⟩⟩
  have hm2 : m < (u.funcs[k]).blocks.length := by rw [hlen] at hm'; exact hm'
  have hgm : (watF (decide (k = K)) r u.funcs[k]).blocks[m] = watB (decide (k = K)) r (u.funcs[k]).blocks[m] := by unfold watF; exact List.getElem_map _
  rw [hgm]
  obtain ⟨v1, v2, v3, hB⟩ := hF.blk m hm2
  obtain ⟨q, c, d1, d2, d3, d4⟩ := h.done k m hk hm2 (.inl (by omega))
  refine ⟨[v1, .slice q (watB (decide (k = K)) r (u.funcs[k]).blocks[m]).list.length c, .int .i64 (u.funcs[k]).blocks[m].fin.kind, .bool (u.funcs[k]).blocks[m].fin.onr, .int .i64 (u.funcs[k]).blocks[m].fin.onn, v3], rfl, fun j hj => ?_, v1, _, v3, rfl, hB.k64, hB.n64, hB.phi _ h.kept, ⟨q, c, rfl, d2, d3, hm k hk m hm2, d4 _ (Kept.refl _ _)⟩, hB.tos _ h.kept⟩
  rw [Nat.zero_add]
  by_cases e : j = 1
  ·subst e; exact d1
  ·rw [h.same k m j hk hj (.inl e), hB.cell j hj]
   have hj2 : j = 0 ∨ j = 2 ∨ j = 3 ∨ j = 4 ∨ j = 5 := by omega
   rcases hj2 with rfl | rfl | rfl | rfl | rfl <;> rfl
end Go.Proofs.YtdjamkinijhjoaaDoor
