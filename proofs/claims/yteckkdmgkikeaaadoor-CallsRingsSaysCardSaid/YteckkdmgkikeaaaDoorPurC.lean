/-
  The contract of pure.Ends.
-/
import Derived.Test.YteckkdmgkikeaaaDoorPurB
import Derived.WalkKit
import Derived.WalkSpells
import Derived.WalkLawsBesides
namespace Go.Proofs.YteckkdmgkikeaaaDoor
open Go.RowKit

/-- the instruction at a place of a unit, if it is one -/
def insAt (u : UniL) (k b i : Int) : Option InsL :=
  if k < 0 ∨ b < 0 ∨ i < 0 then none
  else match u.funcs[k.toNat]? with
  | none => none
  | some f => match f.blocks[b.toNat]? with
  | none => none
  | some x => x.list[i.toNat]?

/-- instruction by instruction: the unit's cells down to it -/
theorem insAt_some {u : UniL} {k b i : Int} {x : InsL} (h : insAt u k b i = some x) : ∃ (k' b' i' : Nat) (h1 : k' < u.funcs.length) (h2 : b' < u.funcs[k'].blocks.length) (h3 : i' < u.funcs[k'].blocks[b'].list.length), k = k' ∧ b = b' ∧ i = i' ∧ x = u.funcs[k'].blocks[b'].list[i'] := by
  unfold insAt at h
  split at h
  · cases h
  · rename_i hn
    split at h
    · cases h
    · rename_i f hf
      split at h
      · cases h
      · rename_i bl hb
        obtain ⟨h1, rfl⟩ := List.getElem?_eq_some_iff.1 hf
        obtain ⟨h2, rfl⟩ := List.getElem?_eq_some_iff.1 hb
        obtain ⟨h3, rfl⟩ := List.getElem?_eq_some_iff.1 h
        exact ⟨k.toNat, b.toNat, i.toNat, h1, h2, h3, by omega, by omega, by omega, rfl⟩
theorem insAt_none {u : UniL} {k b i : Int} (h : insAt u k b i = none) : k < 0 ∨ (u.funcs.length : Int) ≤ k ∨ ∃ (k' : Nat) (h1 : k' < u.funcs.length), k = k' ∧ (b < 0 ∨ (u.funcs[k'].blocks.length : Int) ≤ b ∨ ∃ (b' : Nat) (h2 : b' < u.funcs[k'].blocks.length), b = b' ∧ (i < 0 ∨ (u.funcs[k'].blocks[b'].list.length : Int) ≤ i)) := by
  rcases Int.lt_or_le k 0 with hk | hk
  · exact .inl hk
  rcases Int.lt_or_le k u.funcs.length with hk2 | hk2
  rotate_left
  · exact .inr (.inl hk2)
  refine .inr (.inr ⟨k.toNat, by omega, by omega, ?_⟩)
  rcases Int.lt_or_le b 0 with hb | hb
  · exact .inl hb
  rcases Int.lt_or_le b u.funcs[k.toNat].blocks.length with hb2 | hb2
  rotate_left
  · exact .inr (.inl hb2)
  refine .inr (.inr ⟨b.toNat, by omega, by omega, ?_⟩)
  rcases Int.lt_or_le i 0 with hi | hi
  · exact .inl hi
  rcases Int.lt_or_le i u.funcs[k.toNat].blocks[b.toNat].list.length with hi2 | hi2
  rotate_left
  · exact .inr hi2
  exfalso
  unfold insAt at h
  rw [if_neg (by omega), List.getElem?_eq_getElem (by omega)] at h
  simp only at h
  rw [List.getElem?_eq_getElem (by omega)] at h
  simp only at h
  rw [List.getElem?_eq_getElem (by omega)] at h
  cases h

theorem cell_set_ne {w : World} {b o b' o' : Nat} {v : Value} (h : ¬ b' = b) : (w.setCell ⟨b, o, none⟩ v).cell? ⟨b', o', none⟩ = w.cell? ⟨b', o', none⟩ :=
  World.cell?_of_block (Below.heap_setCell _ _ _ _ h)
theorem res_one_drew {w : World} {R : Nat} {T : TypeId} (h : w.heap[R]? = some (.cells #[.int .i64 0, .int .i64 0] T (0, 0))) (o1 : Obj) (e a : Int) (j : Nat) :
    (((w.setCell ⟨R, 0, none⟩ (.int .i64 e)).setCell ⟨R, 1, none⟩ (.int .i64 a)).alloc o1).drew.cell? ⟨R, j, none⟩ = (#[.int .i64 e, .int .i64 a] : Array Value)[j]? :=
  (blk (heap_drew (heap_step (heap_set (heap_set h 0 _) 1 _)))).1 j

set_option maxRecDepth 100000 in
set_option maxHeartbeats 1000000 in
theorem ends_bad (u : UniL) (gp fp : Option Addr) (gc fc : Nat) (k b i : Int) (w : World) (hgl : u.globals.length * 48 ≤ 140737488351232) (hG : SliceAt w 3 (GloR w) gp u.globals) (hfl : u.funcs.length * 56 ≤ 140737488351232) (hF : SliceAt w 4 (FunR w) fp u.funcs) (hw0 : Ways w) (h : (chk u).1 ≠ 0) :
    Calls Tryd.prog 13 #[.agg #[.slice gp u.globals.length gc, .slice fp u.funcs.length fc], .int .i64 k, .int .i64 b, .int .i64 i] w fun e w' => e = .returned (.tuple #[.bool false, .agg #[.int .i64 (chk u).1, .int .i64 (chk u).2]]) ∧ Below w.heap.size w w' := by
  have HG := hidI hG
  have HF := hidI hF
  have HW := hidI hw0
  have hne : ((chk u).1 == 0 && (chk u).2 == 0) = false := by simp [h]
  have hq : ∀ w, (binOp .neq 27 (.agg #[.int .i64 (chk u).1, .int .i64 (chk u).2]) (.agg #[.int .i64 0, .int .i64 0])).run Tryd.prog w = .ok (.bool true) w := fun w => by rw [run_neFault, hne]; rfl
  clear hG hF hw0 h hne
  go_enter Tryd.func13, Tryd.ntmps13
  go_wp2_with fail
  refine (check_any u _ _ _ _ _ hgl ?_ hfl ?_ ?_).mono ?_
  · exact glosMono HG.out (by repeat (first | with_reducible exact Below.refl _ _ | with_reducible exact HB3.out | with_reducible refine Below.drew ?_ | with_reducible refine below_drewN ?_ _ | with_reducible refine Below.setCell ?_ ?_ _ | with_reducible refine Below.alloc ?_ ?_ _ | with_reducible exact HB2.out | with_reducible exact HB1.out | with_reducible refine Below.trans ?_ (Below.mono hb3 ?_) | with_reducible refine Below.trans ?_ (Below.mono hb5 ?_) | with_reducible refine Below.trans ?_ (Below.mono hb4 ?_) | omega | (simp; omega) | simp))
  · exact funsMono HF.out (by repeat (first | with_reducible exact Below.refl _ _ | with_reducible exact HB3.out | with_reducible refine Below.drew ?_ | with_reducible refine below_drewN ?_ _ | with_reducible refine Below.setCell ?_ ?_ _ | with_reducible refine Below.alloc ?_ ?_ _ | with_reducible exact HB2.out | with_reducible exact HB1.out | with_reducible refine Below.trans ?_ (Below.mono hb3 ?_) | with_reducible refine Below.trans ?_ (Below.mono hb5 ?_) | with_reducible refine Below.trans ?_ (Below.mono hb4 ?_) | omega | (simp; omega) | simp))
  · exact HW.out.below (by repeat (first | with_reducible exact Below.refl _ _ | with_reducible exact HB3.out | with_reducible refine Below.drew ?_ | with_reducible refine below_drewN ?_ _ | with_reducible refine Below.setCell ?_ ?_ _ | with_reducible refine Below.alloc ?_ ?_ _ | with_reducible exact HB2.out | with_reducible exact HB1.out | with_reducible refine Below.trans ?_ (Below.mono hb3 ?_) | with_reducible refine Below.trans ?_ (Below.mono hb5 ?_) | with_reducible refine Below.trans ?_ (Below.mono hb4 ?_) | omega | (simp; omega) | simp))
  rintro e w2 ⟨rfl, hb2⟩
  have HB1 : Hid (Below w.heap.size w w2) := Below.trans (by repeat (first | with_reducible exact Below.refl _ _ | with_reducible exact HB3.out | with_reducible refine Below.drew ?_ | with_reducible refine below_drewN ?_ _ | with_reducible refine Below.setCell ?_ ?_ _ | with_reducible refine Below.alloc ?_ ?_ _ | with_reducible exact HB2.out | with_reducible exact HB1.out | with_reducible refine Below.trans ?_ (Below.mono hb3 ?_) | with_reducible refine Below.trans ?_ (Below.mono hb5 ?_) | with_reducible refine Below.trans ?_ (Below.mono hb4 ?_) | omega | (simp; omega) | simp)) (hb2.mono (by simp; omega))
  have hR := heap_below hb2 (k := w.heap.size + 1) (by simp) (heap_at (w := w.alloc (.cells #[.slice gp u.globals.length gc, .slice fp u.funcs.length fc] 25)) (o := .cells #[.int .i64 0, .int .i64 0] 27) (by simp))
  obtain ⟨hcc, hcf⟩ := blk hR
  have hz : w.heap.size + 1 < w2.heap.size := by have := hb2.size; simp at this; omega
  clear hb2
  go_wp2_with fail
  have HX := hidI (res_one_drew hR)
  clear hR
  go_region
  all_goals go_wp2
  all_goals
    refine bodyPost_ret (v := .tuple #[.bool false, .agg #[.int .i64 (chk u).1, .int .i64 (chk u).2]]) ?_ rfl ⟨rfl, ?_⟩
    · have hx := HX.out
      simp [results, Tryd.results13, go_sem, hx]
    · repeat (first | with_reducible exact Below.refl _ _ | with_reducible exact HB3.out | with_reducible refine Below.drew ?_ | with_reducible refine below_drewN ?_ _ | with_reducible refine Below.setCell ?_ ?_ _ | with_reducible refine Below.alloc ?_ ?_ _ | with_reducible exact HB2.out | with_reducible exact HB1.out | with_reducible refine Below.trans ?_ (Below.mono hb3 ?_) | with_reducible refine Below.trans ?_ (Below.mono hb5 ?_) | with_reducible refine Below.trans ?_ (Below.mono hb4 ?_) | omega | (simp; omega) | simp)

set_option maxRecDepth 100000 in
set_option maxHeartbeats 1000000 in
theorem ends_out (u : UniL) (gp fp : Option Addr) (gc fc : Nat) (k b i : Int) (w : World) (hgl : u.globals.length * 48 ≤ 140737488351232) (hG : SliceAt w 3 (GloR w) gp u.globals) (hfl : u.funcs.length * 56 ≤ 140737488351232) (hF : SliceAt w 4 (FunR w) fp u.funcs) (hw0 : Ways w) (h : (chk u).1 = 0) (hno : insAt u k b i = none) :
    Calls Tryd.prog 13 #[.agg #[.slice gp u.globals.length gc, .slice fp u.funcs.length fc], .int .i64 k, .int .i64 b, .int .i64 i] w fun e w' => e = .returned (.tuple #[.bool false, .agg #[.int .i64 3, .int .i64 (-1)]]) ∧ Below w.heap.size w w' := by
  have HG := hidI hG
  have HF := hidI hF
  have HW := hidI hw0
  have hne : ((chk u).1 == 0 && (chk u).2 == 0) = true := by rw [(chk_ok h).1]; rfl
  have hq : ∀ w, (binOp .neq 27 (.agg #[.int .i64 (chk u).1, .int .i64 (chk u).2]) (.agg #[.int .i64 0, .int .i64 0])).run Tryd.prog w = .ok (.bool false) w := fun w => by rw [run_neFault, hne]; rfl
  clear hG hF hw0 h hne
  go_enter Tryd.func13, Tryd.ntmps13
  have HN := hidI (insAt_none hno)
  clear hno
  go_wp2_with fail
  refine (check_any u _ _ _ _ _ hgl ?_ hfl ?_ ?_).mono ?_
  · exact glosMono HG.out (by repeat (first | with_reducible exact Below.refl _ _ | with_reducible exact HB3.out | with_reducible refine Below.drew ?_ | with_reducible refine below_drewN ?_ _ | with_reducible refine Below.setCell ?_ ?_ _ | with_reducible refine Below.alloc ?_ ?_ _ | with_reducible exact HB2.out | with_reducible exact HB1.out | with_reducible refine Below.trans ?_ (Below.mono hb3 ?_) | with_reducible refine Below.trans ?_ (Below.mono hb5 ?_) | with_reducible refine Below.trans ?_ (Below.mono hb4 ?_) | omega | (simp; omega) | simp))
  · exact funsMono HF.out (by repeat (first | with_reducible exact Below.refl _ _ | with_reducible exact HB3.out | with_reducible refine Below.drew ?_ | with_reducible refine below_drewN ?_ _ | with_reducible refine Below.setCell ?_ ?_ _ | with_reducible refine Below.alloc ?_ ?_ _ | with_reducible exact HB2.out | with_reducible exact HB1.out | with_reducible refine Below.trans ?_ (Below.mono hb3 ?_) | with_reducible refine Below.trans ?_ (Below.mono hb5 ?_) | with_reducible refine Below.trans ?_ (Below.mono hb4 ?_) | omega | (simp; omega) | simp))
  · exact HW.out.below (by repeat (first | with_reducible exact Below.refl _ _ | with_reducible exact HB3.out | with_reducible refine Below.drew ?_ | with_reducible refine below_drewN ?_ _ | with_reducible refine Below.setCell ?_ ?_ _ | with_reducible refine Below.alloc ?_ ?_ _ | with_reducible exact HB2.out | with_reducible exact HB1.out | with_reducible refine Below.trans ?_ (Below.mono hb3 ?_) | with_reducible refine Below.trans ?_ (Below.mono hb5 ?_) | with_reducible refine Below.trans ?_ (Below.mono hb4 ?_) | omega | (simp; omega) | simp))
  rintro e w2 ⟨rfl, hb2⟩
  have HB1 : Hid (Below w.heap.size w w2) := Below.trans (by repeat (first | with_reducible exact Below.refl _ _ | with_reducible exact HB3.out | with_reducible refine Below.drew ?_ | with_reducible refine below_drewN ?_ _ | with_reducible refine Below.setCell ?_ ?_ _ | with_reducible refine Below.alloc ?_ ?_ _ | with_reducible exact HB2.out | with_reducible exact HB1.out | with_reducible refine Below.trans ?_ (Below.mono hb3 ?_) | with_reducible refine Below.trans ?_ (Below.mono hb5 ?_) | with_reducible refine Below.trans ?_ (Below.mono hb4 ?_) | omega | (simp; omega) | simp)) (hb2.mono (by simp; omega))
  have hR := heap_below hb2 (k := w.heap.size + 1) (by simp) (heap_at (w := w.alloc (.cells #[.slice gp u.globals.length gc, .slice fp u.funcs.length fc] 25)) (o := .cells #[.int .i64 0, .int .i64 0] 27) (by simp))
  obtain ⟨hcc, hcf⟩ := blk hR
  have hz : w.heap.size + 1 < w2.heap.size := by have := hb2.size; simp at this; omega
  have hc0 := fun o => (blk (heap_below hb2 (k := w.heap.size) (by simp; omega) (heap_step (heap_here w _)))).1 o
  have hz2 : w.heap.size < w2.heap.size := by omega
  clear hb2
  have HX := hidI (res_one hR)
  clear hR
  rcases HN.out with hk | hk | ⟨k', h1, rfl, hk⟩
  · (go_wp2; all_goals (refine bodyPost_ret (v := .tuple #[.bool false, .agg #[.int .i64 3, .int .i64 (-1)]]) ?_ rfl ⟨rfl, ?_⟩; (focus (have hx := HX.out; simp [results, Tryd.results13, go_sem, hx])); repeat (first | with_reducible exact Below.refl _ _ | with_reducible exact HB3.out | with_reducible refine Below.drew ?_ | with_reducible refine below_drewN ?_ _ | with_reducible refine Below.setCell ?_ ?_ _ | with_reducible refine Below.alloc ?_ ?_ _ | with_reducible exact HB2.out | with_reducible exact HB1.out | with_reducible refine Below.trans ?_ (Below.mono hb3 ?_) | with_reducible refine Below.trans ?_ (Below.mono hb5 ?_) | with_reducible refine Below.trans ?_ (Below.mono hb4 ?_) | omega | (simp; omega) | simp)))
  · have t1 : decide (k < 0) = false := by simp; omega
    have t2 : decide ((u.funcs.length : Int) ≤ k) = true := by simp; omega
    (go_wp2; all_goals (refine bodyPost_ret (v := .tuple #[.bool false, .agg #[.int .i64 3, .int .i64 (-1)]]) ?_ rfl ⟨rfl, ?_⟩; (focus (have hx := HX.out; simp [results, Tryd.results13, go_sem, hx])); repeat (first | with_reducible exact Below.refl _ _ | with_reducible exact HB3.out | with_reducible refine Below.drew ?_ | with_reducible refine below_drewN ?_ _ | with_reducible refine Below.setCell ?_ ?_ _ | with_reducible refine Below.alloc ?_ ?_ _ | with_reducible exact HB2.out | with_reducible exact HB1.out | with_reducible refine Below.trans ?_ (Below.mono hb3 ?_) | with_reducible refine Below.trans ?_ (Below.mono hb5 ?_) | with_reducible refine Below.trans ?_ (Below.mono hb4 ?_) | omega | (simp; omega) | simp)))
  obtain ⟨b2, o2, q, c, hp, e0, e1, e2, e3, _, _, _, hbl, hbs⟩ := funGet HF.out HB1.out h1
  subst hp
  have hbb := lt_of_cell e0
  have HS := hidI hbs
  clear hbs
  have t1 : decide ((k' : Int) < 0) = false := by simp
  have t2 : decide (u.funcs.length ≤ k') = false := by simp; omega
  rcases hk with hb | hb | ⟨b', h2, rfl, hb⟩
  · (go_wp2; all_goals (refine bodyPost_ret (v := .tuple #[.bool false, .agg #[.int .i64 3, .int .i64 (-1)]]) ?_ rfl ⟨rfl, ?_⟩; (focus (have hx := HX.out; simp [results, Tryd.results13, go_sem, hx])); repeat (first | with_reducible exact Below.refl _ _ | with_reducible exact HB3.out | with_reducible refine Below.drew ?_ | with_reducible refine below_drewN ?_ _ | with_reducible refine Below.setCell ?_ ?_ _ | with_reducible refine Below.alloc ?_ ?_ _ | with_reducible exact HB2.out | with_reducible exact HB1.out | with_reducible refine Below.trans ?_ (Below.mono hb3 ?_) | with_reducible refine Below.trans ?_ (Below.mono hb5 ?_) | with_reducible refine Below.trans ?_ (Below.mono hb4 ?_) | omega | (simp; omega) | simp)))
  · have t3 : decide (b < 0) = false := by simp; omega
    have t4 : decide ((u.funcs[k'].blocks.length : Int) ≤ b) = true := by simp; omega
    (go_wp2; all_goals (refine bodyPost_ret (v := .tuple #[.bool false, .agg #[.int .i64 3, .int .i64 (-1)]]) ?_ rfl ⟨rfl, ?_⟩; (focus (have hx := HX.out; simp [results, Tryd.results13, go_sem, hx])); repeat (first | with_reducible exact Below.refl _ _ | with_reducible exact HB3.out | with_reducible refine Below.drew ?_ | with_reducible refine below_drewN ?_ _ | with_reducible refine Below.setCell ?_ ?_ _ | with_reducible refine Below.alloc ?_ ?_ _ | with_reducible exact HB2.out | with_reducible exact HB1.out | with_reducible refine Below.trans ?_ (Below.mono hb3 ?_) | with_reducible refine Below.trans ?_ (Below.mono hb5 ?_) | with_reducible refine Below.trans ?_ (Below.mono hb4 ?_) | omega | (simp; omega) | simp)))
  obtain ⟨b3, o3, q1, c1, q2, c2, q3, c3, hp, d0, d1, d2, d3, d4, d5, _, _, _, hl2, _, _, _, _⟩ := blkGet HS.out (Below.refl _ _) h2
  subst hp
  have hbb3 := lt_of_cell d0
  have t3 : decide ((b' : Int) < 0) = false := by simp
  have t4 : decide (u.funcs[k'].blocks.length ≤ b') = false := by simp; omega
  rcases hb with hi | hi
  · (go_wp2; all_goals (refine bodyPost_ret (v := .tuple #[.bool false, .agg #[.int .i64 3, .int .i64 (-1)]]) ?_ rfl ⟨rfl, ?_⟩; (focus (have hx := HX.out; simp [results, Tryd.results13, go_sem, hx])); repeat (first | with_reducible exact Below.refl _ _ | with_reducible exact HB3.out | with_reducible refine Below.drew ?_ | with_reducible refine below_drewN ?_ _ | with_reducible refine Below.setCell ?_ ?_ _ | with_reducible refine Below.alloc ?_ ?_ _ | with_reducible exact HB2.out | with_reducible exact HB1.out | with_reducible refine Below.trans ?_ (Below.mono hb3 ?_) | with_reducible refine Below.trans ?_ (Below.mono hb5 ?_) | with_reducible refine Below.trans ?_ (Below.mono hb4 ?_) | omega | (simp; omega) | simp)))
  · have t5 : decide (i < 0) = false := by simp; omega
    have t6 : decide ((u.funcs[k'].blocks[b'].list.length : Int) ≤ i) = true := by simp; omega
    (go_wp2; all_goals (refine bodyPost_ret (v := .tuple #[.bool false, .agg #[.int .i64 3, .int .i64 (-1)]]) ?_ rfl ⟨rfl, ?_⟩; (focus (have hx := HX.out; simp [results, Tryd.results13, go_sem, hx])); repeat (first | with_reducible exact Below.refl _ _ | with_reducible exact HB3.out | with_reducible refine Below.drew ?_ | with_reducible refine below_drewN ?_ _ | with_reducible refine Below.setCell ?_ ?_ _ | with_reducible refine Below.alloc ?_ ?_ _ | with_reducible exact HB2.out | with_reducible exact HB1.out | with_reducible refine Below.trans ?_ (Below.mono hb3 ?_) | with_reducible refine Below.trans ?_ (Below.mono hb5 ?_) | with_reducible refine Below.trans ?_ (Below.mono hb4 ?_) | omega | (simp; omega) | simp)))
set_option maxRecDepth 100000 in
set_option maxHeartbeats 1000000 in
theorem ends_in (u : UniL) (gp fp : Option Addr) (gc fc : Nat) (k b i : Int) (w : World) (hgl : u.globals.length * 48 ≤ 140737488351232) (hG : SliceAt w 3 (GloR w) gp u.globals) (hfl : u.funcs.length * 56 ≤ 140737488351232) (hF : SliceAt w 4 (FunR w) fp u.funcs) (hw0 : Ways w) (h : (chk u).1 = 0) (x : InsL) (hno : insAt u k b i = some x) :
    Calls Tryd.prog 13 #[.agg #[.slice gp u.globals.length gc, .slice fp u.funcs.length fc], .int .i64 k, .int .i64 b, .int .i64 i] w fun e w' => e = .returned (.tuple #[.bool (mayB x.op x.an x.bn x.ar x.br (wordsU u)), .agg #[.int .i64 0, .int .i64 0]]) ∧ Below w.heap.size w w' := by
  have HG := hidI hG
  have HF := hidI hF
  have HW := hidI hw0
  have hne : ((chk u).1 == 0 && (chk u).2 == 0) = true := by rw [(chk_ok h).1]; rfl
  have hq : ∀ w, (binOp .neq 27 (.agg #[.int .i64 (chk u).1, .int .i64 (chk u).2]) (.agg #[.int .i64 0, .int .i64 0])).run Tryd.prog w = .ok (.bool false) w := fun w => by rw [run_neFault, hne]; rfl
  have hwd := (chk_ok h).2.words
  have HWD := hidI hwd
  clear hG hF hw0 h hne hwd
  obtain ⟨k', b', i', h1, h2, h3, rfl, rfl, rfl, rfl⟩ := insAt_some hno
  clear hno
  have t1 : decide ((k' : Int) < 0) = false := by simp
  have t2 : decide (u.funcs.length ≤ k') = false := by simp; omega
  have t3 : decide ((b' : Int) < 0) = false := by simp
  have t4 : decide (u.funcs[k'].blocks.length ≤ b') = false := by simp; omega
  have t5 : decide ((i' : Int) < 0) = false := by simp
  have t6 : decide (u.funcs[k'].blocks[b'].list.length ≤ i') = false := by simp; omega
  go_enter Tryd.func13, Tryd.ntmps13
  go_wp2_with fail
  refine (check_any u _ _ _ _ _ hgl ?_ hfl ?_ ?_).mono ?_
  · exact glosMono HG.out (by repeat (first | with_reducible exact Below.refl _ _ | with_reducible exact HB3.out | with_reducible refine Below.drew ?_ | with_reducible refine below_drewN ?_ _ | with_reducible refine Below.setCell ?_ ?_ _ | with_reducible refine Below.alloc ?_ ?_ _ | with_reducible exact HB2.out | with_reducible exact HB1.out | with_reducible refine Below.trans ?_ (Below.mono hb3 ?_) | with_reducible refine Below.trans ?_ (Below.mono hb5 ?_) | with_reducible refine Below.trans ?_ (Below.mono hb4 ?_) | omega | (simp; omega) | simp))
  · exact funsMono HF.out (by repeat (first | with_reducible exact Below.refl _ _ | with_reducible exact HB3.out | with_reducible refine Below.drew ?_ | with_reducible refine below_drewN ?_ _ | with_reducible refine Below.setCell ?_ ?_ _ | with_reducible refine Below.alloc ?_ ?_ _ | with_reducible exact HB2.out | with_reducible exact HB1.out | with_reducible refine Below.trans ?_ (Below.mono hb3 ?_) | with_reducible refine Below.trans ?_ (Below.mono hb5 ?_) | with_reducible refine Below.trans ?_ (Below.mono hb4 ?_) | omega | (simp; omega) | simp))
  · exact HW.out.below (by repeat (first | with_reducible exact Below.refl _ _ | with_reducible exact HB3.out | with_reducible refine Below.drew ?_ | with_reducible refine below_drewN ?_ _ | with_reducible refine Below.setCell ?_ ?_ _ | with_reducible refine Below.alloc ?_ ?_ _ | with_reducible exact HB2.out | with_reducible exact HB1.out | with_reducible refine Below.trans ?_ (Below.mono hb3 ?_) | with_reducible refine Below.trans ?_ (Below.mono hb5 ?_) | with_reducible refine Below.trans ?_ (Below.mono hb4 ?_) | omega | (simp; omega) | simp))
  rintro e w2 ⟨rfl, hb2⟩
  have HB1 : Hid (Below w.heap.size w w2) := Below.trans (by repeat (first | with_reducible exact Below.refl _ _ | with_reducible exact HB3.out | with_reducible refine Below.drew ?_ | with_reducible refine below_drewN ?_ _ | with_reducible refine Below.setCell ?_ ?_ _ | with_reducible refine Below.alloc ?_ ?_ _ | with_reducible exact HB2.out | with_reducible exact HB1.out | with_reducible refine Below.trans ?_ (Below.mono hb3 ?_) | with_reducible refine Below.trans ?_ (Below.mono hb5 ?_) | with_reducible refine Below.trans ?_ (Below.mono hb4 ?_) | omega | (simp; omega) | simp)) (hb2.mono (by simp; omega))
  have hR := heap_below hb2 (k := w.heap.size + 1) (by simp) (heap_at (w := w.alloc (.cells #[.slice gp u.globals.length gc, .slice fp u.funcs.length fc] 25)) (o := .cells #[.int .i64 0, .int .i64 0] 27) (by simp))
  obtain ⟨hcc, hcf⟩ := blk hR
  have hz : w.heap.size + 1 < w2.heap.size := by have := hb2.size; simp at this; omega
  have hc0 := fun o => (blk (heap_below hb2 (k := w.heap.size) (by simp; omega) (heap_step (heap_here w _)))).1 o
  have hz2 : w.heap.size < w2.heap.size := by omega
  clear hb2
  have HR := hidI hR
  clear hR
  obtain ⟨b2, o2, q, c, hp, e0, e1, e2, e3, _, _, _, hbl, hbs⟩ := funGet HF.out (Below.refl _ _) h1
  subst hp
  have hbb := lt_of_cell e0
  obtain ⟨b3, o3, q1, c1, q2, c2, q3, c3, hp, d0, d1, d2, d3, d4, d5, _, _, _, hl2, _, _, hls, _⟩ := blkGet hbs (Below.refl _ _) h2
  subst hp
  have hbb3 := lt_of_cell d0
  obtain ⟨b4, o4, q4, c4, hp, f0, f1, f2, f3, f4, f5, f6, f7, _, _, _, _, _, _, _⟩ := insGet hls (Below.refl _ _) h3
  subst hp
  have hbb4 := lt_of_cell f0
  rw [← HB1.out.cell (p := ⟨b2, _, none⟩) hbb] at e3
  rw [← HB1.out.cell (p := ⟨b3, _, none⟩) hbb3] at d1
  rw [← HB1.out.cell (p := ⟨b4, _, none⟩) hbb4] at f0
  rw [← HB1.out.cell (p := ⟨b4, _, none⟩) hbb4] at f1
  rw [← HB1.out.cell (p := ⟨b4, _, none⟩) hbb4] at f2
  rw [← HB1.out.cell (p := ⟨b4, _, none⟩) hbb4] at f3
  rw [← HB1.out.cell (p := ⟨b4, _, none⟩) hbb4] at f4
  rw [← HB1.out.cell (p := ⟨b4, _, none⟩) hbb4] at f5
  rw [← HB1.out.cell (p := ⟨b4, _, none⟩) hbb4] at f6
  rw [← HB1.out.cell (p := ⟨b4, _, none⟩) hbb4] at f7
  clear e0 e1 e2 d0 d2 d3 d4 d5
  have ne1 : ¬ b2 = w.heap.size + 1 := by omega
  have ne2 : ¬ b3 = w.heap.size + 1 := by omega
  have ne3 : ¬ b4 = w.heap.size + 1 := by omega
  have ne7 : ¬ w.heap.size = w.heap.size + 1 := by omega
  have ne4 : b2 < w2.heap.size := by omega
  have ne5 : b3 < w2.heap.size := by omega
  have ne6 : b4 < w2.heap.size := by omega
  clear hls hbs
  have g1 : (0 : Int) ≤ (k' : Int) := by omega
  have g2 : (k' : Int) < u.funcs.length := by omega
  have g3 : (0 : Int) ≤ (b' : Int) := by omega
  have g4 : (b' : Int) < u.funcs[k'].blocks.length := by omega
  have g5 : (0 : Int) ≤ (i' : Int) := by omega
  have g6 : (i' : Int) < u.funcs[k'].blocks[b'].list.length := by omega
  have hz5 : w.heap.size < w2.heap.size + 1 := by omega
  have hz6 : w.heap.size + 1 < w2.heap.size + 1 := by omega
  have hz7 : b2 < w2.heap.size + 1 := by omega
  have hz8 : b3 < w2.heap.size + 1 := by omega
  have hz9 : b4 < w2.heap.size + 1 := by omega
  go_wp2
  go_region_held3 (fun w' => w'.cell? ⟨w.heap.size, 0, none⟩ = some (.slice gp u.globals.length gc) ∧ w'.cell? ⟨w.heap.size, 1, none⟩ = some (.slice (some ⟨b2, o2, none⟩) u.funcs.length fc) ∧ w'.cell? ⟨b2, o2 + k' * 4 + 3, none⟩ = some (.slice (some ⟨b3, o3, none⟩) u.funcs[k'].blocks.length c) ∧ w'.cell? ⟨b3, o3 + b' * 6 + 1, none⟩ = some (.slice (some ⟨b4, o4, none⟩) u.funcs[k'].blocks[b'].list.length c2) ∧ w'.cell? ⟨b4, o4 + i' * 8, none⟩ = some (.int .i64 u.funcs[k'].blocks[b'].list[i'].op) ∧ w'.cell? ⟨b4, o4 + i' * 8 + 1, none⟩ = some (.int .i64 u.funcs[k'].blocks[b'].list[i'].dst) ∧ w'.cell? ⟨b4, o4 + i' * 8 + 2, none⟩ = some (.bool u.funcs[k'].blocks[b'].list[i'].ar) ∧ w'.cell? ⟨b4, o4 + i' * 8 + 3, none⟩ = some (.int .i64 u.funcs[k'].blocks[b'].list[i'].an) ∧ w'.cell? ⟨b4, o4 + i' * 8 + 4, none⟩ = some (.bool u.funcs[k'].blocks[b'].list[i'].br) ∧ w'.cell? ⟨b4, o4 + i' * 8 + 5, none⟩ = some (.int .i64 u.funcs[k'].blocks[b'].list[i'].bn) ∧ w'.cell? ⟨b4, o4 + i' * 8 + 6, none⟩ = some (.int .i64 u.funcs[k'].blocks[b'].list[i'].fn) ∧ w'.cell? ⟨b4, o4 + i' * 8 + 7, none⟩ = some (.slice q4 u.funcs[k'].blocks[b'].list[i'].args.length c4)) (((try dsimp only); (repeat' apply And.intro); all_goals (first | go_keep | (simp only [cell_set_ne ne1, cell_set_ne ne2, cell_set_ne ne3]; first | assumption | go_keep))))
    (first | (go_at_call 42; refine (words_any u _ _ _ _ _ _ hgl ?_ HWD.out).mono ?_; (exact glosMono HG.out (by repeat (first | with_reducible exact Below.refl _ _ | with_reducible exact HB3.out | with_reducible refine Below.drew ?_ | with_reducible refine below_drewN ?_ _ | with_reducible refine Below.setCell ?_ ?_ _ | with_reducible refine Below.alloc ?_ ?_ _ | with_reducible exact HB2.out | with_reducible exact HB1.out | with_reducible refine Below.trans ?_ (Below.mono hb3 ?_) | with_reducible refine Below.trans ?_ (Below.mono hb5 ?_) | with_reducible refine Below.trans ?_ (Below.mono hb4 ?_) | omega | (simp; omega) | simp))); rintro e w3 ⟨rfl, hb3⟩; obtain ⟨hcq, hfq, hzq⟩ := bcell hb3; simp at hzq) | (go_at_call 41; refine (may_any _ _ _ _ _ _ _ _ _ _ _ _).mono ?_; rintro e w4 ⟨rfl, hb4⟩; obtain ⟨hcr, hfr, hzr⟩ := bcell hb4; have hz1 : w.heap.size < w3.heap.size := (by omega); have hz12 : w.heap.size + 1 < w3.heap.size := (by omega); have hz13 : b2 < w3.heap.size := (by omega); have hz14 : b3 < w3.heap.size := (by omega); have hz15 : b4 < w3.heap.size := (by omega)))
  all_goals go_wp2
  have HB2 : Hid (Below w.heap.size w w4) := by
    refine Below.trans ?_ (hb4.mono (by omega))
    refine Below.trans ?_ (hb3.mono (by simp; omega))
    repeat (first | with_reducible exact Below.refl _ _ | with_reducible exact HB3.out | with_reducible refine Below.drew ?_ | with_reducible refine below_drewN ?_ _ | with_reducible refine Below.setCell ?_ ?_ _ | with_reducible refine Below.alloc ?_ ?_ _ | with_reducible exact HB2.out | with_reducible exact HB1.out | with_reducible refine Below.trans ?_ (Below.mono hb3 ?_) | with_reducible refine Below.trans ?_ (Below.mono hb5 ?_) | with_reducible refine Below.trans ?_ (Below.mono hb4 ?_) | omega | (simp; omega) | simp)
  have hx := res_zero (T := 27) (w := w4) (R := w.heap.size + 1) (heap_below hb4 (by omega) (heap_below hb3 (by simp; omega) (heap_drew (heap_step HR.out))))
  refine bodyPost_ret (v := .tuple #[.bool (mayB u.funcs[k'].blocks[b'].list[i'].op u.funcs[k'].blocks[b'].list[i'].an u.funcs[k'].blocks[b'].list[i'].bn u.funcs[k'].blocks[b'].list[i'].ar u.funcs[k'].blocks[b'].list[i'].br (wordsU u)), .agg #[.int .i64 0, .int .i64 0]]) ?_ rfl ⟨rfl, ?_⟩
  · simp [results, Tryd.results13, go_sem, hx]
  · repeat (first | with_reducible exact Below.refl _ _ | with_reducible exact HB3.out | with_reducible refine Below.drew ?_ | with_reducible refine below_drewN ?_ _ | with_reducible refine Below.setCell ?_ ?_ _ | with_reducible refine Below.alloc ?_ ?_ _ | with_reducible exact HB2.out | with_reducible exact HB1.out | with_reducible refine Below.trans ?_ (Below.mono hb3 ?_) | with_reducible refine Below.trans ?_ (Below.mono hb5 ?_) | with_reducible refine Below.trans ?_ (Below.mono hb4 ?_) | omega | (simp; omega) | simp)
end Go.Proofs.YteckkdmgkikeaaaDoor
