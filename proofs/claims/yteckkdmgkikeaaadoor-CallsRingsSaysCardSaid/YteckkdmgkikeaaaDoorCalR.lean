/-
  Plain: the reference's table is what paths say; the contract of calls.Reach.
-/
import Derived.Test.YteckkdmgkikeaaaDoorCalQ
import Derived.WalkKit
import Derived.WalkSpells
import Derived.WalkLawsBesides
namespace Go.Proofs.YteckkdmgkikeaaaDoor
open Go.RowKit

theorem edge_iff {xs : List FunL} {a b : Nat} (ha : a < xs.length) (hb : b < xs.length) : edgeL (graphTo xs xs.length) a b ↔ callsB xs[a] (b : Int) = true := by
  have hg : (graphTo xs xs.length)[a]? = some (rowTo xs[a] xs.length) := by
    unfold graphTo
    simp [ha]
  unfold edgeL
  rw [hg]
  constructor
  · rintro ⟨r, hr, hm⟩
    cases hr
    exact (rowTo_iff.1 hm).2
  · intro h
    exact ⟨_, rfl, rowTo_iff.2 ⟨⟨by omega, by omega⟩, h⟩⟩
theorem table_path (xs : List FunL) {a b : Nat} (ha : a < xs.length) (hb : b < xs.length) : tableU xs a b = true ↔ Path xs.length (edgeL (graphTo xs xs.length)) a b := by
  unfold tableU
  rw [fwUp_eq _ _ _ _ _ (Nat.le_refl _) ha hb]
  constructor
  · refine viaT_path (fun a b ha hb h => ?_) _ _ _ (Nat.le_refl _) ha hb
    unfold baseT at h
    rw [List.getElem?_eq_getElem ha, Bool.or_eq_true] at h
    rcases h with h | h
    · have : a = b := by simpa using h
      subst this
      exact .refl _
    · exact .step (.refl _) ((edge_iff ha hb).2 h) hb
  · intro h
    refine (path_viaT (fun a _ => ?_) (fun a b ha hb h => ?_) ha h).2
    · unfold baseT; simp
    · unfold baseT
      rw [List.getElem?_eq_getElem ha, Bool.or_eq_true]
      exact .inr ((edge_iff ha hb).1 h)
/-- what main reaches -/
def reachL (xs : List FunL) (m : Nat) : List Bool := (List.range xs.length).map fun j => tableU xs m j
theorem bools_row {w : World} {b : Nat} {t : TypeId} {n : Nat} {f : Nat → Bool} (h : w.rowIs b t n (fun j => .bool (f j))) : SliceAt w 1 BoolR (some ⟨b, 0, none⟩) ((List.range n).map f) := by
  refine .inr ⟨b, 0, rfl, fun i hi => ?_⟩
  have hi2 : i < n := by simpa using hi
  refine ⟨[.bool (f i)], rfl, fun j hj => ?_, by simp [BoolR]⟩
  obtain rfl : j = 0 := by omega
  simp only [Nat.zero_add, Nat.mul_one, Nat.add_zero, List.getElem?_cons_zero]
  exact h.cell hi2
theorem rows_below {w w' : World} {p : Option Addr} {xs : List (List Int)} (h : SliceAt w 1 (IntsR w) p xs) (hb : Below w.heap.size w w') : SliceAt w' 1 (IntsR w') p xs :=
  h.mono hb (by omega) fun _ _ h => h.below hb
theorem bools_below {w w' : World} {p : Option Addr} {xs : List Bool} (h : SliceAt w 1 BoolR p xs) (hb : Below w.heap.size w w') : SliceAt w' 1 BoolR p xs :=
  h.mono hb (by omega) fun _ _ h => h
theorem graphTo_all (xs : List FunL) : (graphTo xs xs.length).length = xs.length := by unfold graphTo; simp
theorem graphTo_in (xs : List FunL) : ∀ k (h : k < (graphTo xs xs.length).length), ∀ x ∈ (graphTo xs xs.length)[k], 0 ≤ x ∧ x < ((graphTo xs xs.length).length : Int) := by
  intro k h x hx
  rw [graphTo_all]
  unfold graphTo at hx
  simp only [List.getElem_map, List.take_length] at hx
  exact (rowTo_iff.1 hx).1
theorem mainI_lt {xs : List FunL} {m : Nat} (h : mainI xs = some m) : m < xs.length := by
  unfold mainI at h
  exact List.mem_range.1 (List.mem_of_find?_eq_some h)

set_option maxRecDepth 100000 in
set_option maxHeartbeats 1000000 in
theorem rc_bad (u : UniL) (gp fp : Option Addr) (gc fc : Nat) (w : World) (hgl : u.globals.length * 48 ≤ 140737488351232) (hG : SliceAt w 3 (GloR w) gp u.globals) (hfl : u.funcs.length * 56 ≤ 140737488351232) (hF : SliceAt w 4 (FunR w) fp u.funcs) (hw0 : Ways w) (h : (chk u).1 ≠ 0) :
    Calls Tryd.prog 23 #[.agg #[.slice gp u.globals.length gc, .slice fp u.funcs.length fc]] w fun e w' => e = .returned (.tuple #[.slice none 0 0, .agg #[.int .i64 (chk u).1, .int .i64 (chk u).2]]) ∧ Below w.heap.size w w' := by
  have HG := hidI hG
  have HF := hidI hF
  have HW := hidI hw0
  have HH := hidI h
  have hne : ((chk u).1 == 0 && (chk u).2 == 0) = false := by simp [h]
  have hq : ∀ w, (binOp .neq 27 (.agg #[.int .i64 (chk u).1, .int .i64 (chk u).2]) (.agg #[.int .i64 0, .int .i64 0])).run Tryd.prog w = .ok (.bool true) w := fun w => by rw [run_neFault, hne]; rfl
  clear hG hF hw0 h hne
  go_enter Tryd.func23, Tryd.ntmps23
  go_wp2_with fail
  refine (gr_bad u _ _ _ _ _ hgl (glosMono HG.out (by repeat (first | with_reducible exact Below.refl _ _ | with_reducible exact HB3.out | with_reducible refine Below.drew ?_ | with_reducible refine below_drewN ?_ _ | with_reducible refine Below.setCell ?_ ?_ _ | with_reducible refine Below.alloc ?_ ?_ _ | with_reducible exact HB2.out | with_reducible exact HB1.out | with_reducible refine Below.trans ?_ (Below.mono hb3 ?_) | with_reducible refine Below.trans ?_ (Below.mono hb5 ?_) | with_reducible refine Below.trans ?_ (Below.mono hb4 ?_) | omega | (simp; omega) | simp))) hfl (funsMono HF.out (by repeat (first | with_reducible exact Below.refl _ _ | with_reducible exact HB3.out | with_reducible refine Below.drew ?_ | with_reducible refine below_drewN ?_ _ | with_reducible refine Below.setCell ?_ ?_ _ | with_reducible refine Below.alloc ?_ ?_ _ | with_reducible exact HB2.out | with_reducible exact HB1.out | with_reducible refine Below.trans ?_ (Below.mono hb3 ?_) | with_reducible refine Below.trans ?_ (Below.mono hb5 ?_) | with_reducible refine Below.trans ?_ (Below.mono hb4 ?_) | omega | (simp; omega) | simp))) (HW.out.below (by repeat (first | with_reducible exact Below.refl _ _ | with_reducible exact HB3.out | with_reducible refine Below.drew ?_ | with_reducible refine below_drewN ?_ _ | with_reducible refine Below.setCell ?_ ?_ _ | with_reducible refine Below.alloc ?_ ?_ _ | with_reducible exact HB2.out | with_reducible exact HB1.out | with_reducible refine Below.trans ?_ (Below.mono hb3 ?_) | with_reducible refine Below.trans ?_ (Below.mono hb5 ?_) | with_reducible refine Below.trans ?_ (Below.mono hb4 ?_) | omega | (simp; omega) | simp))) HH.out).mono ?_
  rintro e w2 ⟨rfl, hb2⟩
  have HB1 : Hid (Below w.heap.size w w2) := Below.trans (by repeat (first | with_reducible exact Below.refl _ _ | with_reducible exact HB3.out | with_reducible refine Below.drew ?_ | with_reducible refine below_drewN ?_ _ | with_reducible refine Below.setCell ?_ ?_ _ | with_reducible refine Below.alloc ?_ ?_ _ | with_reducible exact HB2.out | with_reducible exact HB1.out | with_reducible refine Below.trans ?_ (Below.mono hb3 ?_) | with_reducible refine Below.trans ?_ (Below.mono hb5 ?_) | with_reducible refine Below.trans ?_ (Below.mono hb4 ?_) | omega | (simp; omega) | simp)) (hb2.mono (by simp; omega))
  have hR := heap_below hb2 (k := w.heap.size + 1) (by simp) (heap_at (w := w.alloc (.cells #[.slice gp u.globals.length gc, .slice fp u.funcs.length fc] 25)) (o := .cells #[.int .i64 0, .int .i64 0] 27) (by simp))
  obtain ⟨hcc, hcf⟩ := blk hR
  have hz : w.heap.size + 1 < w2.heap.size := by have := hb2.size; simp at this; omega
  clear hb2
  go_wp2_with fail
  have HX := hidI (res_one_drew hR)
  clear hR
  go_region
  all_goals go_wp2
  all_goals
    refine bodyPost_ret (v := .tuple #[.slice none 0 0, .agg #[.int .i64 (chk u).1, .int .i64 (chk u).2]]) ?_ rfl ⟨rfl, ?_⟩
    · have hx := HX.out
      simp [results, Tryd.results23, go_sem, hx]
    · repeat (first | with_reducible exact Below.refl _ _ | with_reducible exact HB3.out | with_reducible refine Below.drew ?_ | with_reducible refine below_drewN ?_ _ | with_reducible refine Below.setCell ?_ ?_ _ | with_reducible refine Below.alloc ?_ ?_ _ | with_reducible exact HB2.out | with_reducible exact HB1.out | with_reducible refine Below.trans ?_ (Below.mono hb3 ?_) | with_reducible refine Below.trans ?_ (Below.mono hb5 ?_) | with_reducible refine Below.trans ?_ (Below.mono hb4 ?_) | omega | (simp; omega) | simp)

set_option maxRecDepth 100000 in
set_option maxHeartbeats 1000000 in
theorem rc_ok (u : UniL) (gp fp : Option Addr) (gc fc m : Nat) (w : World) (hgl : u.globals.length * 48 ≤ 140737488351232) (hG : SliceAt w 3 (GloR w) gp u.globals) (hfl : u.funcs.length * 56 ≤ 140737488351232) (hF : SliceAt w 4 (FunR w) fp u.funcs) (hw0 : Ways w) (h : (chk u).1 = 0) (hm : mainI u.funcs = some m) :
    Calls Tryd.prog 23 #[.agg #[.slice gp u.globals.length gc, .slice fp u.funcs.length fc]] w fun e w' => ∃ T, e = .returned (.tuple #[.slice (some ⟨T, 0, none⟩) u.funcs.length u.funcs.length, .agg #[.int .i64 0, .int .i64 0]]) ∧ SliceAt w' 1 BoolR (some ⟨T, 0, none⟩) (reachL u.funcs m) ∧ Below w.heap.size w w' := by
  have HG := hidI hG
  have HF := hidI hF
  have HW := hidI hw0
  have HH := hidI h
  have hnf := (chk_ok h).2.nf
  have hml := mainI_lt hm
  have hq : ∀ w, (binOp .neq 27 (.agg #[.int .i64 0, .int .i64 0]) (.agg #[.int .i64 0, .int .i64 0])).run Tryd.prog w = .ok (.bool false) w := fun w => by rw [run_neFault]; rfl
  clear hG hF hw0 h
  go_enter Tryd.func23, Tryd.ntmps23
  go_wp2_with fail
  refine (gr_ok u _ _ _ _ _ hgl (glosMono HG.out (by repeat (first | with_reducible exact Below.refl _ _ | with_reducible exact HB3.out | with_reducible refine Below.drew ?_ | with_reducible refine below_drewN ?_ _ | with_reducible refine Below.setCell ?_ ?_ _ | with_reducible refine Below.alloc ?_ ?_ _ | with_reducible exact HB2.out | with_reducible exact HB1.out | with_reducible refine Below.trans ?_ (Below.mono hb3 ?_) | with_reducible refine Below.trans ?_ (Below.mono hb5 ?_) | with_reducible refine Below.trans ?_ (Below.mono hb4 ?_) | omega | (simp; omega) | simp))) hfl (funsMono HF.out (by repeat (first | with_reducible exact Below.refl _ _ | with_reducible exact HB3.out | with_reducible refine Below.drew ?_ | with_reducible refine below_drewN ?_ _ | with_reducible refine Below.setCell ?_ ?_ _ | with_reducible refine Below.alloc ?_ ?_ _ | with_reducible exact HB2.out | with_reducible exact HB1.out | with_reducible refine Below.trans ?_ (Below.mono hb3 ?_) | with_reducible refine Below.trans ?_ (Below.mono hb5 ?_) | with_reducible refine Below.trans ?_ (Below.mono hb4 ?_) | omega | (simp; omega) | simp))) (HW.out.below (by repeat (first | with_reducible exact Below.refl _ _ | with_reducible exact HB3.out | with_reducible refine Below.drew ?_ | with_reducible refine below_drewN ?_ _ | with_reducible refine Below.setCell ?_ ?_ _ | with_reducible refine Below.alloc ?_ ?_ _ | with_reducible exact HB2.out | with_reducible exact HB1.out | with_reducible refine Below.trans ?_ (Below.mono hb3 ?_) | with_reducible refine Below.trans ?_ (Below.mono hb5 ?_) | with_reducible refine Below.trans ?_ (Below.mono hb4 ?_) | omega | (simp; omega) | simp))) HH.out).mono ?_
  rintro e w2 ⟨T, rfl, hS2, hb2⟩
  have HB1 : Hid (Below w.heap.size w w2) := Below.trans (by repeat (first | with_reducible exact Below.refl _ _ | with_reducible exact HB3.out | with_reducible refine Below.drew ?_ | with_reducible refine below_drewN ?_ _ | with_reducible refine Below.setCell ?_ ?_ _ | with_reducible refine Below.alloc ?_ ?_ _ | with_reducible exact HB2.out | with_reducible exact HB1.out | with_reducible refine Below.trans ?_ (Below.mono hb3 ?_) | with_reducible refine Below.trans ?_ (Below.mono hb5 ?_) | with_reducible refine Below.trans ?_ (Below.mono hb4 ?_) | omega | (simp; omega) | simp)) (hb2.mono (by simp; omega))
  have hR := heap_below hb2 (k := w.heap.size + 1) (by simp) (heap_at (w := w.alloc (.cells #[.slice gp u.globals.length gc, .slice fp u.funcs.length fc] 25)) (o := .cells #[.int .i64 0, .int .i64 0] 27) (by simp))
  obtain ⟨hcc, hcf⟩ := blk hR
  have hz : w.heap.size + 1 < w2.heap.size := by have := hb2.size; simp at this; omega
  have hc0 := fun o => (blk (heap_below hb2 (k := w.heap.size) (by simp; omega) (heap_step (heap_here w _)))).1 o
  have hz2 : w.heap.size < w2.heap.size := by omega
  clear hb2
  have HR := hidI hR
  have HS2 := hidI hS2
  clear hR hS2
  go_wp2_with fail
  have cm := fun W h => cmain_any u.funcs gp fp u.globals.length gc fc W (by omega) h
  rw [hm] at cm
  refine (cm _ (funsMono HF.out (by repeat (first | with_reducible exact Below.refl _ _ | with_reducible exact HB3.out | with_reducible refine Below.drew ?_ | with_reducible refine below_drewN ?_ _ | with_reducible refine Below.setCell ?_ ?_ _ | with_reducible refine Below.alloc ?_ ?_ _ | with_reducible exact HB2.out | with_reducible exact HB1.out | with_reducible refine Below.trans ?_ (Below.mono hb3 ?_) | with_reducible refine Below.trans ?_ (Below.mono hb5 ?_) | with_reducible refine Below.trans ?_ (Below.mono hb4 ?_) | omega | (simp; omega) | simp)))).mono ?_
  rintro e w3 ⟨rfl, hb3⟩
  have hb23 : Below w2.heap.size w2 w3 := ((Below.refl _ _).alloc (Nat.le_refl _) _).trans (hb3.mono (by simp))
  have HB2 : Hid (Below w.heap.size w w3) := HB1.out.trans (hb23.mono (by omega))
  have HR3 := hidI (heap_below hb23 (k := w.heap.size + 1) hz HR.out)
  have hz3 : w.heap.size + 1 < w3.heap.size := by have := hb23.size; omega
  have hr := reach_any (graphTo u.funcs u.funcs.length) (some ⟨T, 0, none⟩) u.funcs.length m w3 (by rw [graphTo_all]; exact hnf) (by rw [graphTo_all]; exact hml) (rows_below HS2.out hb23) (graphTo_in _)
  rw [graphTo_all] at hr
  clear hb3
  go_wp2_with (refine hr.mono ?_; rintro e w4 ⟨T2, had, rfl, hr4, hT2, hp, hb4⟩; have hR4 := heap_below hb4 (k := w.heap.size + 1) hz3 HR3.out; obtain ⟨hcc4, hcf4⟩ := blk hR4; have hz4 : w.heap.size + 1 < w4.heap.size := (Array.getElem?_eq_some_iff.1 hR4).1)
  rw [setCell_same hR4 rfl, setCell_same hR4 rfl]
  refine bodyPost_ret (v := .tuple #[.slice (some ⟨T2, 0, none⟩) u.funcs.length u.funcs.length, .agg #[.int .i64 0, .int .i64 0]]) ?_ rfl ⟨T2, rfl, ?_, ?_⟩
  · simp [results, Tryd.results23, go_sem, hcc4]
  · have e : reachL u.funcs m = (List.range u.funcs.length).map had := by
      unfold reachL
      refine List.map_congr_left fun j hj => ?_
      have hj2 := List.mem_range.1 hj
      rw [Bool.eq_iff_iff, hp j hj2, table_path _ hml hj2]
    rw [e]
    exact bools_row hr4
  · exact HB2.out.trans (hb4.mono (by omega))
end Go.Proofs.YteckkdmgkikeaaaDoor
