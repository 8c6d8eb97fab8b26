/-
  The contract of calls.Do.
-/
import Derived.Test.YtdjamkinijhjoaaDoorBCdo
import Derived.Test.YtdjamkinijhjoaaDoorBEach
import Derived.Test.YtdjamkinijhjoaaDoorBCalO
import Derived.Test.YtdjamkinijhjoaaDoorRegZ
import Derived.BigQuiet
import Derived.Deep.QuietTactic
import Derived.WalkKit
import Derived.WalkSpells
import Derived.WalkLawsBesides
namespace Go.Proofs.YtdjamkinijhjoaaDoor
open Go.RowKit Go.Shelf
attribute [local go_sem] Oper.semAt_some

theorem frame_rfl {t t' : Array Value} {d : List Deferred} (h : t = t') : ({ tmps := t, defers := d } : Act) = { tmps := t', defers := d } := by rw [h]
theorem or3 {p q r g : Prop} (h : p ∨ q ∨ r) (a : p → g) (b : q → g) (c : r → g) : g := h.elim a fun h => h.elim b c

set_option maxRecDepth 100000 in
set_option maxHeartbeats 2000000 in
theorem do_bad (u : UniL) (gp fp : Option Addr) (gc fc : Nat) (w : World) (hgl : u.globals.length * 48 ≤ 140737488351232) (hG : SliceAt w 3 (GloR w) gp u.globals) (hfl : u.funcs.length * 56 ≤ 140737488351232) (hF : SliceAt w 4 (FunR w) fp u.funcs) (hw0 : Ways w) (h : (chk u).1 ≠ 0) :
    Calls Tryd.prog 13 #[.agg #[.slice gp u.globals.length gc, .slice fp u.funcs.length fc]] w fun e w' => e = .returned (.tuple #[.agg #[.slice none 0 0, .slice none 0 0], .agg #[.int .i64 (chk u).1, .int .i64 (chk u).2]]) ∧ Below w.heap.size w w' := by
  have HG := hidI hG
  have HF := hidI hF
  have HW := hidI hw0
  have HH := hidI h
  have hne : ((chk u).1 == 0 && (chk u).2 == 0) = false := by simp [h]
  have hq : ∀ w, (binOp .neq 28 (.agg #[.int .i64 (chk u).1, .int .i64 (chk u).2]) (.agg #[.int .i64 0, .int .i64 0])).run Tryd.prog w = .ok (.bool true) w := fun w => by rw [run_neFault, hne]; rfl
  clear hG hF hw0 h hne
  go_enter Tryd.func13, Tryd.ntmps13
  go_wp2_with fail
  refine (rc_bad u _ _ _ _ _ hgl (glosMono HG.out (by repeat (first | with_reducible exact Below.refl _ _ | with_reducible exact HB3.out | with_reducible refine Below.drew ?_ | with_reducible refine below_drewN ?_ _ | with_reducible refine Below.setCell ?_ ?_ _ | with_reducible refine Below.alloc ?_ ?_ _ | with_reducible exact HB2.out | with_reducible exact HB1.out | with_reducible refine Below.trans ?_ (Below.mono hb3 ?_) | with_reducible refine Below.trans ?_ (Below.mono hb5 ?_) | with_reducible refine Below.trans ?_ (Below.mono hb4 ?_) | omega | (simp; omega) | simp))) hfl (funsMono HF.out (by repeat (first | with_reducible exact Below.refl _ _ | with_reducible exact HB3.out | with_reducible refine Below.drew ?_ | with_reducible refine below_drewN ?_ _ | with_reducible refine Below.setCell ?_ ?_ _ | with_reducible refine Below.alloc ?_ ?_ _ | with_reducible exact HB2.out | with_reducible exact HB1.out | with_reducible refine Below.trans ?_ (Below.mono hb3 ?_) | with_reducible refine Below.trans ?_ (Below.mono hb5 ?_) | with_reducible refine Below.trans ?_ (Below.mono hb4 ?_) | omega | (simp; omega) | simp))) (HW.out.below (by repeat (first | with_reducible exact Below.refl _ _ | with_reducible exact HB3.out | with_reducible refine Below.drew ?_ | with_reducible refine below_drewN ?_ _ | with_reducible refine Below.setCell ?_ ?_ _ | with_reducible refine Below.alloc ?_ ?_ _ | with_reducible exact HB2.out | with_reducible exact HB1.out | with_reducible refine Below.trans ?_ (Below.mono hb3 ?_) | with_reducible refine Below.trans ?_ (Below.mono hb5 ?_) | with_reducible refine Below.trans ?_ (Below.mono hb4 ?_) | omega | (simp; omega) | simp))) HH.out).mono ?_
  rintro e w1 ⟨rfl, hb1⟩
  have HB1 : Hid (Below w.heap.size w w1) := Below.trans (by repeat (first | with_reducible exact Below.refl _ _ | with_reducible exact HB3.out | with_reducible refine Below.drew ?_ | with_reducible refine below_drewN ?_ _ | with_reducible refine Below.setCell ?_ ?_ _ | with_reducible refine Below.alloc ?_ ?_ _ | with_reducible exact HB2.out | with_reducible exact HB1.out | with_reducible refine Below.trans ?_ (Below.mono hb3 ?_) | with_reducible refine Below.trans ?_ (Below.mono hb5 ?_) | with_reducible refine Below.trans ?_ (Below.mono hb4 ?_) | omega | (simp; omega) | simp)) (hb1.mono (by simp; omega))
  have hR := heap_below hb1 (k := w.heap.size + 1) (by simp) (heap_step (heap_at (w := w.alloc (.cells #[.slice gp u.globals.length gc, .slice fp u.funcs.length fc] 25)) (o := .cells #[.slice none 0 0, .slice none 0 0] 25) (by simp)))
  have hR2 := heap_below hb1 (k := w.heap.size + 1 + 1) (by simp) (heap_at (w := (w.alloc (.cells #[.slice gp u.globals.length gc, .slice fp u.funcs.length fc] 25)).alloc (.cells #[.slice none 0 0, .slice none 0 0] 25)) (o := .cells #[.int .i64 0, .int .i64 0] 28) (by simp))
  obtain ⟨hcc, hcf⟩ := blk hR
  obtain ⟨hcc2, hcf2⟩ := blk hR2
  have z1 := ltHeap hR
  have z2 := ltHeap hR2
  clear hb1
  go_wp2_with fail
  go_region
  all_goals go_wp2
  all_goals
    refine bodyPost_ret (v := .tuple #[.agg #[.slice none 0 0, .slice none 0 0], .agg #[.int .i64 (chk u).1, .int .i64 (chk u).2]]) ?_ rfl ⟨rfl, ?_⟩
    · simp [results, Tryd.results13, go_sem, *]
    · repeat (first | with_reducible exact Below.refl _ _ | with_reducible exact HB3.out | with_reducible refine Below.drew ?_ | with_reducible refine below_drewN ?_ _ | with_reducible refine Below.setCell ?_ ?_ _ | with_reducible refine Below.alloc ?_ ?_ _ | with_reducible exact HB2.out | with_reducible exact HB1.out | with_reducible refine Below.trans ?_ (Below.mono hb3 ?_) | with_reducible refine Below.trans ?_ (Below.mono hb5 ?_) | with_reducible refine Below.trans ?_ (Below.mono hb4 ?_) | omega | (simp; omega) | simp)

set_option maxRecDepth 100000 in
set_option maxHeartbeats 4000000 in
theorem do_ok (u : UniL) (gp fp : Option Addr) (gc fc m : Nat) (w : World) (hgl : u.globals.length * 48 ≤ 140737488351232) (hG : SlF w 3 48 (GloR w) (.slice gp u.globals.length gc) u.globals) (hfl : u.funcs.length * 56 ≤ 140737488351232) (hF : SlF w 4 56 (FunR w) (.slice fp u.funcs.length fc) u.funcs) (hw0 : Ways w) (h : (chk u).1 = 0) (hm : mainI u.funcs = some m) :
    Calls Tryd.prog 13 #[.agg #[.slice gp u.globals.length gc, .slice fp u.funcs.length fc]] w fun e w' => (∃ p1 c1 p2 c2, e = .returned (.tuple #[.agg #[.slice p1 u.globals.length c1, .slice p2 (doneU (tableU u.funcs m) u).funcs.length c2], .agg #[.int .i64 0, .int .i64 0]]) ∧
      ∃ S, UniO w' [.slice p1 u.globals.length c1, .slice p2 (doneU (tableU u.funcs m) u).funcs.length c2] (doneU (tableU u.funcs m) u) S ∧ LoB w.heap.size S) ∧ Below w.heap.size w w' := by
  have hG' : SliceAt w 3 (GloR w) gp u.globals := by
    obtain ⟨p, c, e, _, _, h⟩ := hG.outC
    cases e
    exact h
  have hF' : SliceAt w 4 (FunR w) fp u.funcs := by
    obtain ⟨p, c, e, _, _, h⟩ := hF.outC
    cases e
    exact h
  have HG := hidI hG
  have HF := hidI hF
  have HG' := hidI hG'
  have HF' := hidI hF'
  have HW := hidI hw0
  have HH := hidI h
  have HM := hidI hm
  clear hG hF hG' hF' hw0 h hm
  refine (callsIn_wide (n := 3)).1 ?_
  refine callsIn_of_wp_marks Tryd.func13 rfl trivial ?_ rfl
  simp only [Tryd.ntmps13, List.size_toArray, List.length_cons, List.length_nil, Nat.reduceAdd, Nat.reduceSub, Array.replicate_succ, Array.replicate_zero, List.push_toArray, List.append_toArray, List.nil_append, List.cons_append]
  refine wpIn_wide.2 ?_
  go_wp2_with fail
  refine (rc_ok u _ _ _ _ m _ hgl (glosMono HG'.out (by repeat (first | with_reducible exact Below.refl _ _ | with_reducible exact HB3.out | with_reducible refine Below.drew ?_ | with_reducible refine below_drewN ?_ _ | with_reducible refine Below.setCell ?_ ?_ _ | with_reducible refine Below.alloc ?_ ?_ _ | with_reducible exact HB2.out | with_reducible exact HB1.out | with_reducible refine Below.trans ?_ (Below.mono hb3 ?_) | with_reducible refine Below.trans ?_ (Below.mono hb5 ?_) | with_reducible refine Below.trans ?_ (Below.mono hb4 ?_) | omega | (simp; omega) | simp))) hfl (funsMono HF'.out (by repeat (first | with_reducible exact Below.refl _ _ | with_reducible exact HB3.out | with_reducible refine Below.drew ?_ | with_reducible refine below_drewN ?_ _ | with_reducible refine Below.setCell ?_ ?_ _ | with_reducible refine Below.alloc ?_ ?_ _ | with_reducible exact HB2.out | with_reducible exact HB1.out | with_reducible refine Below.trans ?_ (Below.mono hb3 ?_) | with_reducible refine Below.trans ?_ (Below.mono hb5 ?_) | with_reducible refine Below.trans ?_ (Below.mono hb4 ?_) | omega | (simp; omega) | simp))) (HW.out.below (by repeat (first | with_reducible exact Below.refl _ _ | with_reducible exact HB3.out | with_reducible refine Below.drew ?_ | with_reducible refine below_drewN ?_ _ | with_reducible refine Below.setCell ?_ ?_ _ | with_reducible refine Below.alloc ?_ ?_ _ | with_reducible exact HB2.out | with_reducible exact HB1.out | with_reducible refine Below.trans ?_ (Below.mono hb3 ?_) | with_reducible refine Below.trans ?_ (Below.mono hb5 ?_) | with_reducible refine Below.trans ?_ (Below.mono hb4 ?_) | omega | (simp; omega) | simp))) HH.out HM.out).mono ?_
  rintro e w1 ⟨T, rfl, hT, hb1⟩
  have hnf := (chk_ok HH.out).2.nf
  have HB1 : Hid (Below w.heap.size w w1) := Below.trans (by repeat (first | with_reducible exact Below.refl _ _ | with_reducible exact HB3.out | with_reducible refine Below.drew ?_ | with_reducible refine below_drewN ?_ _ | with_reducible refine Below.setCell ?_ ?_ _ | with_reducible refine Below.alloc ?_ ?_ _ | with_reducible exact HB2.out | with_reducible exact HB1.out | with_reducible refine Below.trans ?_ (Below.mono hb3 ?_) | with_reducible refine Below.trans ?_ (Below.mono hb5 ?_) | with_reducible refine Below.trans ?_ (Below.mono hb4 ?_) | omega | (simp; omega) | simp)) (hb1.mono (by simp; omega))
  have hA := heap_below hb1 (k := w.heap.size) (by simp; omega) (heap_step (heap_step (heap_at (w := w) (o := .cells #[.slice gp u.globals.length gc, .slice fp u.funcs.length fc] 25) rfl)))
  have hR := heap_below hb1 (k := w.heap.size + 1) (by simp) (heap_step (heap_at (w := w.alloc (.cells #[.slice gp u.globals.length gc, .slice fp u.funcs.length fc] 25)) (o := .cells #[.slice none 0 0, .slice none 0 0] 25) (by simp)))
  have hR2 := heap_below hb1 (k := w.heap.size + 1 + 1) (by simp) (heap_at (w := (w.alloc (.cells #[.slice gp u.globals.length gc, .slice fp u.funcs.length fc] 25)).alloc (.cells #[.slice none 0 0, .slice none 0 0] 25)) (o := .cells #[.int .i64 0, .int .i64 0] 28) (by simp))
  have hq : ∀ w, (binOp .neq 28 (.agg #[.int .i64 0, .int .i64 0]) (.agg #[.int .i64 0, .int .i64 0])).run Tryd.prog w = .ok (.bool false) w := fun w => by rw [run_neFault]; rfl
  obtain ⟨i3, m1, m2, m3, m4⟩ := info_parts infoInt3
  have hmk := run_make_row 46 3 i3 (.int .i64 0) underInts3 m1 m2 m3 rfl .i64 .i64 u.funcs.length (by rw [m4]; omega) (by omega)
  have HT := hidI hT
  have HR := hidI hR
  have HR2 := hidI hR2
  have HA := hidI hA
  have ka0 : w1.cell? ⟨w.heap.size, 0, none⟩ = some (.slice gp u.globals.length gc) := (blk hA).1 0
  have ka1 : w1.cell? ⟨w.heap.size, 1, none⟩ = some (.slice fp u.funcs.length fc) := (blk hA).1 1
  have kz := ltHeap hA
  have kz1 : w.heap.size < w1.heap.size + 1 := by omega
  have kz2 : w.heap.size < w1.heap.size + 1 + 1 := by omega
  clear hb1 hT hR hR2 hA
  go_wp2_with fail
  refine (copy_any u gp fp gc fc _ (HG.out.mono (HB1.out.trans (by repeat (first | with_reducible exact Below.refl _ _ | with_reducible exact HB3.out | with_reducible refine Below.drew ?_ | with_reducible refine below_drewN ?_ _ | with_reducible refine Below.setCell ?_ ?_ _ | with_reducible refine Below.alloc ?_ ?_ _ | with_reducible exact HB2.out | with_reducible exact HB1.out | with_reducible refine Below.trans ?_ (Below.mono hb3 ?_) | with_reducible refine Below.trans ?_ (Below.mono hb5 ?_) | with_reducible refine Below.trans ?_ (Below.mono hb4 ?_) | omega | (simp; omega) | simp))) (by omega) fun _ _ g => g.below (HB1.out.trans (by repeat (first | with_reducible exact Below.refl _ _ | with_reducible exact HB3.out | with_reducible refine Below.drew ?_ | with_reducible refine below_drewN ?_ _ | with_reducible refine Below.setCell ?_ ?_ _ | with_reducible refine Below.alloc ?_ ?_ _ | with_reducible exact HB2.out | with_reducible exact HB1.out | with_reducible refine Below.trans ?_ (Below.mono hb3 ?_) | with_reducible refine Below.trans ?_ (Below.mono hb5 ?_) | with_reducible refine Below.trans ?_ (Below.mono hb4 ?_) | omega | (simp; omega) | simp)))) (HF.out.mono (HB1.out.trans (by repeat (first | with_reducible exact Below.refl _ _ | with_reducible exact HB3.out | with_reducible refine Below.drew ?_ | with_reducible refine below_drewN ?_ _ | with_reducible refine Below.setCell ?_ ?_ _ | with_reducible refine Below.alloc ?_ ?_ _ | with_reducible exact HB2.out | with_reducible exact HB1.out | with_reducible refine Below.trans ?_ (Below.mono hb3 ?_) | with_reducible refine Below.trans ?_ (Below.mono hb5 ?_) | with_reducible refine Below.trans ?_ (Below.mono hb4 ?_) | omega | (simp; omega) | simp))) (by omega) fun _ _ g => g.below (HB1.out.trans (by repeat (first | with_reducible exact Below.refl _ _ | with_reducible exact HB3.out | with_reducible refine Below.drew ?_ | with_reducible refine below_drewN ?_ _ | with_reducible refine Below.setCell ?_ ?_ _ | with_reducible refine Below.alloc ?_ ?_ _ | with_reducible exact HB2.out | with_reducible exact HB1.out | with_reducible refine Below.trans ?_ (Below.mono hb3 ?_) | with_reducible refine Below.trans ?_ (Below.mono hb5 ?_) | with_reducible refine Below.trans ?_ (Below.mono hb4 ?_) | omega | (simp; omega) | simp))))).mono ?_
  rintro e w2 ⟨⟨p1, c1, p2, c2, rfl, S, hS, hSl⟩, hb2⟩
  have hb21 : Below w1.heap.size w1 w2 := Below.trans (by repeat (first | with_reducible exact Below.refl _ _ | with_reducible exact HB3.out | with_reducible refine Below.drew ?_ | with_reducible refine below_drewN ?_ _ | with_reducible refine Below.setCell ?_ ?_ _ | with_reducible refine Below.alloc ?_ ?_ _ | with_reducible exact HB2.out | with_reducible exact HB1.out | with_reducible refine Below.trans ?_ (Below.mono hb3 ?_) | with_reducible refine Below.trans ?_ (Below.mono hb5 ?_) | with_reducible refine Below.trans ?_ (Below.mono hb4 ?_) | omega | (simp; omega) | simp)) (hb2.mono (by simp; omega))
  have HS := hidI hS
  have HSl := hidI (show ∀ k, S k → w1.heap.size + 1 + 1 + 1 ≤ k from fun k hk => by have := hSl k hk; simpa using this)
  have hM := heap_below hb2 (k := w1.heap.size + 1) (by simp) (heap_step (heap_at (w := w1.alloc (.cells #[.int .i64 0, .int .i64 0] 28)) (o := .cells (madeCells #[.int .i64 0] u.funcs.length) 3) (by simp)))
  have hMb := heap_below hb2 (k := w1.heap.size + 1 + 1) (by simp) (heap_at (w := (w1.alloc (.cells #[.int .i64 0, .int .i64 0] 28)).alloc (.cells (madeCells #[.int .i64 0] u.funcs.length) 3)) (o := .cells #[.slice (some ⟨w1.heap.size + 1, 0, none⟩) u.funcs.length u.funcs.length] 46) (by simp))
  have hz2 : w1.heap.size + 1 + 1 + 1 ≤ w2.heap.size := by have := hb2.size; simpa using this
  have HB21 := hidI hb21
  have HM1 := hidI hM
  have HMb := hidI hMb
  clear hS hSl hb2 hb21 hM hMb ka0 ka1 hmk
  go_wp2_with fail
  obtain ⟨v1, v2, S1, S2, hv, hSG, ⟨⟨cs, Tj, hSF⟩, hbF⟩, hS12, hS1, hS2⟩ := HS.out
  cases hv
  obtain ⟨W2, hW2⟩ : ∃ W2, W2 = w2.alloc (.cells #[.slice p1 u.globals.length c1, .slice none 0 0] 25) := ⟨_, rfl⟩
  rw [← hW2]
  have hzW : W2.heap.size = w2.heap.size + 1 := by rw [hW2]; simp
  have HBW : Hid (Below w2.heap.size w2 W2) := hidI (by rw [hW2]; repeat (first | with_reducible exact Below.refl _ _ | with_reducible exact HB3.out | with_reducible refine Below.drew ?_ | with_reducible refine below_drewN ?_ _ | with_reducible refine Below.setCell ?_ ?_ _ | with_reducible refine Below.alloc ?_ ?_ _ | with_reducible exact HB2.out | with_reducible exact HB1.out | with_reducible refine Below.trans ?_ (Below.mono hb3 ?_) | with_reducible refine Below.trans ?_ (Below.mono hb5 ?_) | with_reducible refine Below.trans ?_ (Below.mono hb4 ?_) | omega | (simp; omega) | simp))
  have HO : Hid (W2.heap[w2.heap.size]? = some (.cells #[.slice p1 u.globals.length c1, .slice none 0 0] 25 (0, 0))) := hidI (by rw [hW2]; exact heap_at rfl)
  clear hW2
  have HMr : Hid (W2.rowIs (w1.heap.size + 1) 3 u.funcs.length fun j => .int .i64 (atD (tableU u.funcs m) 0 j)) := by
    have h1 := World.rowIs_made (w1.alloc (.cells #[.int .i64 0, .int .i64 0] 28)) (.int .i64 0) u.funcs.length 3
    have e1 : (w1.alloc (.cells #[.int .i64 0, .int .i64 0] 28)).heap.size = w1.heap.size + 1 := by simp
    rw [e1] at h1
    refine (h1.of_block (w' := W2) ?_).congr fun j _ => by rw [atD_zero]
    rw [HBW.out.block _ (by omega), HM1.out]
    exact (heap_at (by simp)).symm
  have HSG := hidI hSG
  have HSF := hidI (And.intro hSF hbF)
  have HSS := hidI (And.intro hS12 (And.intro hS1 hS2))
  have HT2 : Hid (SliceAt W2 1 BoolR (some ⟨T, 0, none⟩) (reachL u.funcs m)) := bools_below (bools_below HT.out HB21.out) HBW.out
  clear HM1 HG HF HG' HF' hSG hSF hbF hS12 hS1 hS2 HS
  have hrl : (reachL u.funcs m).length = u.funcs.length := by simp [reachL]
  obtain ⟨iF, l1, l2, l3, l4⟩ := info_parts infoFunC
  go_loopw [34] (fun i wr => ∃ (k : Nat) (v : Value), k ≤ u.funcs.length ∧ i = .int .i64 k ∧ (∃ So, SlO 37 4 FunO wr v (keepTo (tableU u.funcs m) u.funcs k) So ∧ (∀ b, So b → (∃ j, j < k ∧ Tj j b) ∨ W2.heap.size ≤ b)) ∧ wr.heap[w2.heap.size]? = some (.cells #[.slice p1 u.globals.length c1, v] 25 (0, 0)) ∧
    (wr.rowIs (w1.heap.size + 1) 3 u.funcs.length fun j => .int .i64 (atD (tableU u.funcs m) k j)) ∧ Kept (fun b => b = w2.heap.size ∨ b = w1.heap.size + 1 ∨ ∃ j, j < k ∧ Tj j b) W2 wr) (fun i _ => u.funcs.length - (intOf i).toNat)
  case atStart => exact ⟨0, .slice none 0 0, by omega, rfl, ⟨fun _ => False, SlO.nil _ _ _ _ (fun _ h => h.elim), fun _ h => h.elim⟩, HO.out, HMr.out, Kept.refl _ _⟩
  case round =>
    obtain ⟨k, v, hk, rfl, ⟨So, hSo, hSob⟩, hOb, hRow, hK⟩ := hrel
    obtain ⟨po, co, hv, hvz, hvc⟩ := hSo.val
    rw [keepTo_len _ _ _ hk] at hv hvz hvc
    subst hv
    have HSo := hidI hSo
    have HSob := hidI hSob
    have HOb := hidI hOb
    have HRow := hidI hRow
    have HK := hidI hK
    have hsz := hK.size
    clear hSo hSob hOb hRow hK
    have hcnt := cnt_le (tableU u.funcs m) k
    have ob0 : wr.cell? ⟨w2.heap.size, 0, none⟩ = some (.slice p1 u.globals.length c1) := (blk HOb.out).1 0
    have ob1 : wr.cell? ⟨w2.heap.size, 1, none⟩ = some (.slice po (cnt (tableU u.funcs m) k) co) := (blk HOb.out).1 1
    have obf := (blk HOb.out).2
    have obz := ltHeap HOb.out
    have hMb1 : wr.heap[w1.heap.size + 1 + 1]? = W2.heap[w1.heap.size + 1 + 1]? := HK.out.block (w1.heap.size + 1 + 1) (by omega) fun h => or3 h (fun h => by omega) (fun h => by omega) fun ⟨j, h1, h2⟩ => by
      have := HSl.out _ (HSS.out.2.2 _ (HSF.out.1.sub j (by omega) _ h2))
      omega
    have hMb : wr.cell? ⟨w1.heap.size + 1 + 1, 0, none⟩ = some (.slice (some ⟨w1.heap.size + 1, 0, none⟩) u.funcs.length u.funcs.length) := (blk (hMb1.trans ((HBW.out.block _ (by omega)).trans HMb.out))).1 0
    have hMz : w1.heap.size + 1 + 1 < wr.heap.size := by omega
    have hTl : ∀ j, j < u.funcs.length → ∀ i, Tj j i → w1.heap.size + 1 + 1 + 1 ≤ i ∧ i < w2.heap.size := fun j hj i h => ⟨HSl.out _ (HSS.out.2.2 _ (HSF.out.1.sub j hj i h)), HSF.out.1.inb i (HSF.out.1.sub j hj i h)⟩
    have HTl := hidI hTl
    clear hTl
    by_cases hlt : k < u.funcs.length
    · obtain ⟨g, cc, hvg, hgS, hgz, hcells⟩ := HSF.out.1.cell hlt
      cases hvg
      obtain ⟨vb, hcs, hnm, ii1, ii2, hB⟩ := HSF.out.1.el k hlt
      obtain ⟨pb, cb, rfl, _⟩ := hB.sl.val
      have hgS2 := HSl.out _ (HSS.out.2.2 _ hgS)
      have hg : wr.heap[g]? = w2.heap[g]? := (HK.out.block g (by omega) (fun h => or3 h (fun h => (by omega)) (fun h => (by omega)) (fun ⟨j, h1, h2⟩ => HSF.out.1.off j (by omega) g rfl h2))).trans (HBW.out.block g hgz)
      have e0 : wr.cell? ⟨g, k * 4, none⟩ = some (.string u.funcs[k].name) := (World.cell?_of_block (a := ⟨g, k * 4, none⟩) hg).trans ((hcells 0 (by omega)).trans (by rw [hcs]; rfl))
      have e1 : wr.cell? ⟨g, k * 4 + 1, none⟩ = some (.int .i64 u.funcs[k].params) := (World.cell?_of_block (a := ⟨g, k * 4 + 1, none⟩) hg).trans ((hcells 1 (by omega)).trans (by rw [hcs]; rfl))
      have e2 : wr.cell? ⟨g, k * 4 + 2, none⟩ = some (.int .i64 u.funcs[k].regs) := (World.cell?_of_block (a := ⟨g, k * 4 + 2, none⟩) hg).trans ((hcells 2 (by omega)).trans (by rw [hcs]; rfl))
      have e3 : wr.cell? ⟨g, k * 4 + 3, none⟩ = some (.slice pb u.funcs[k].blocks.length cb) := (World.cell?_of_block (a := ⟨g, k * 4 + 3, none⟩) hg).trans ((hcells 3 (by omega)).trans (by rw [hcs]; rfl))
      have hgwr : g < wr.heap.size := by omega
      obtain ⟨bT, oT, hpT, hcT⟩ := boolGet HT2.out (Below.refl _ _) (i := k) (by omega)
      cases hpT
      have hbT : (reachL u.funcs m)[k]'(by omega) = tableU u.funcs m k := by simp [reachL]
      rw [hbT, Nat.zero_add] at hcT
      have hTz := lt_of_cell hcT
      have hTw : T < w1.heap.size := by
        obtain ⟨_, _, hpT, hcT'⟩ := boolGet HT.out (Below.refl _ _) (i := k) (by omega)
        cases hpT
        exact lt_of_cell hcT'
      have hcTr : wr.cell? ⟨T, k, none⟩ = some (.bool (tableU u.funcs m k)) := (HK.out.cell (p := ⟨T, k, none⟩) hTz (fun e => by
        rcases e with e | e | ⟨j, h1, h2⟩
        · have e2 : T = w2.heap.size := e
          omega
        · have e2 : T = w1.heap.size + 1 := e
          omega
        · have := HTl.out j (by omega) T h2
          omega)).trans hcT
      have hTr : T < wr.heap.size := by omega
      cases hhad : tableU u.funcs m k
      · rw [hhad] at hcTr
        go_wp2_with fail
        exact ⟨⟨k + 1, .slice po (cnt (tableU u.funcs m) k) co, by omega, by go_num, ⟨So, by rw [keepTo_succ_no hhad]; exact HSo.out.below locFun (by repeat (first | with_reducible exact Below.refl _ _ | with_reducible exact HB3.out | with_reducible refine Below.drew ?_ | with_reducible refine below_drewN ?_ _ | with_reducible refine Below.setCell ?_ ?_ _ | with_reducible refine Below.alloc ?_ ?_ _ | with_reducible exact HB2.out | with_reducible exact HB1.out | with_reducible refine Below.trans ?_ (Below.mono hb3 ?_) | with_reducible refine Below.trans ?_ (Below.mono hb5 ?_) | with_reducible refine Below.trans ?_ (Below.mono hb4 ?_) | omega | (simp; omega) | simp)), fun b hb => (HSob.out b hb).elim (fun ⟨j, h1, h2⟩ => .inl ⟨j, by omega, h2⟩) .inr⟩, heap_step HOb.out, (HRow.out.alloc _).congr fun j _ => by rw [atD_no hhad], (HK.out.mono fun b _ h => or3 h (fun h => .inl h) (fun h => .inr (.inl h)) (fun ⟨j, h1, h2⟩ => .inr (.inr ⟨j, by omega, h2⟩))).alloc _⟩, by simp [intOf]; omega⟩
      rw [hhad] at hcTr
      have hMk := HRow.out.cell hlt
      have hMf := HRow.out.frozen
      have hMlt : w1.heap.size + 1 < wr.heap.size := by omega
      have hOM : ¬ w2.heap.size = w1.heap.size + 1 := by omega
      have hOM2 : ¬ w1.heap.size + 1 = w2.heap.size := by omega
      have hOz1 : w2.heap.size < wr.heap.size + 1 := by omega
      obtain ⟨W3, hW3⟩ : ∃ W3, W3 = ((wr.setCell ⟨w1.heap.size + 1, k, none⟩ (.int .i64 (cnt (tableU u.funcs m) k))).alloc (.cells #[.string u.funcs[k].name, .int .i64 u.funcs[k].params, .int .i64 u.funcs[k].regs, .slice pb u.funcs[k].blocks.length cb] 37)).alloc (.cells #[.string u.funcs[k].name, .int .i64 u.funcs[k].params, .int .i64 u.funcs[k].regs, .slice pb u.funcs[k].blocks.length cb] 37) := ⟨_, rfl⟩
      have hz3 : W3.heap.size = wr.heap.size + 1 + 1 := by rw [hW3]; simp [World.setCell]
      have hb3 : ∀ b, b < wr.heap.size → b ≠ w1.heap.size + 1 → W3.heap[b]? = wr.heap[b]? := fun b h1 h2 => by
        rw [hW3, Below.heap_alloc _ _ _ (by simp [World.setCell]; omega), Below.heap_alloc _ _ _ (by simp [World.setCell]; omega), Go.Deep.blk_setCell_other _ _ _ _ h2]
      have HRow3 : Hid (W3.rowIs (w1.heap.size + 1) 3 u.funcs.length fun j => .int .i64 (atD (tableU u.funcs m) (k + 1) j)) := by
        rw [hW3]
        exact (((HRow.out.set k _).alloc _).alloc _).congr fun j _ => by
          rw [← atD_yes hhad j]
          split <;> rfl
      go_wp2_with (at_builtin; go_loud (rw [← hW3]; refine wpList_append_slo _ rfl _ _ 23 rfl 37 iF _ 4 56 Tryd.underlying23 l1 l2 l3 l4 rfl (by decide) locFun rfl (S := So) (xs := keepTo (tableU u.funcs m) u.funcs k) ?hso ⟨wr.heap.size + 1, 0, none⟩ 1 [.string u.funcs[k].name, .int .i64 u.funcs[k].params, .int .i64 u.funcs[k].regs, .slice pb u.funcs[k].blocks.length cb] u.funcs[k] rfl rfl ?hn ?ho (T := Tj k) ?hx ?ha ?ht ?hm ?hb ?_))
      case hso => exact HSo.out.loc locFun (fun b hb => hb3 b (HSo.out.inb b hb) (fun e => (HSob.out b hb).elim (fun ⟨j, h1, h2⟩ => by have := HSl.out b (HSS.out.2.2 b (HSF.out.1.sub j (by omega) b h2)); omega) (fun h => by omega))) (by omega)
      case hn => rw [hW3]; exact cells_new _ _ _ (by simp [World.setCell])
      case ho => intro u hu; simp only [List.mem_cons, List.not_mem_nil, or_false] at hu; rcases hu with rfl | rfl | rfl | rfl <;> rfl
      case hx =>
        rw [← hcs]
        refine locFun _ _ _ _ _ (HSF.out.1.el k hlt) (fun b hb => ?_) (by omega)
        have h1 := HSF.out.1.sub k hlt b hb
        have h2 := HSF.out.1.inb b h1
        have h3 := HSl.out b (HSS.out.2.2 b h1)
        exact (hb3 b (by omega) (by omega)).trans ((HK.out.block b (by omega) (fun h => or3 h (fun h => (by omega)) (fun h => (by omega)) (fun ⟨j, h4, h5⟩ => HSF.out.1.two j k (by omega) hlt (by omega) b h5 hb))).trans (HBW.out.block b h2))
      case ha => exact fun b h1 h2 => (HSob.out b h1).elim (fun ⟨j, h3, h4⟩ => HSF.out.1.two j k (by omega) hlt (by omega) b h4 h2) (fun h => by have := HSF.out.1.inb b (HSF.out.1.sub k hlt b h2); omega)
      case ht => exact fun b hb => by have := HSF.out.1.inb b (HSF.out.1.sub k hlt b hb); omega
      case hm => rw [keepTo_len _ _ _ hk]; unfold maxLen; omega
      case hb => rw [keepTo_len _ _ _ hk]; omega
      intro v2 w8 ⟨S', hO8, hsub, hK8⟩
      rw [← hW3] at hsub hK8
      obtain ⟨pv, cv, hv2, _⟩ := hO8.val
      have hlen8 : (keepTo (tableU u.funcs m) u.funcs k ++ [u.funcs[k]]).length = cnt (tableU u.funcs m) (k + 1) := by
        rw [← keepTo_succ_yes hlt hhad, keepTo_len _ _ _ hlt]
      have hc1 : cnt (tableU u.funcs m) (k + 1) = cnt (tableU u.funcs m) k + 1 := by rw [cnt, if_pos hhad]
      rw [hlen8] at hv2
      subst hv2
      have hSn : ∀ i, i < W2.heap.size → (∀ j, j < k → ¬ Tj j i) → ¬ So i := fun i hi hn h => (HSob.out i h).elim (fun ⟨j, h1, h2⟩ => hn j h1 h2) (fun h => by omega)
      have hTl := HTl.out
      have hnO : ¬ So w2.heap.size := hSn _ (by omega) fun j hj h => by have := hTl j (by omega) _ h; omega
      have hnM : ¬ So (w1.heap.size + 1) := hSn _ (by omega) fun j hj h => by have := hTl j (by omega) _ h; omega
      have hO9 := (hK8.block w2.heap.size (by omega) hnO).trans ((hb3 _ (by omega) (by omega)).trans HOb.out)
      have hRow9 := HRow3.out.of_block (hK8.block (w1.heap.size + 1) (by omega) hnM)
      have o1 : w8.cell? ⟨w2.heap.size, 1, none⟩ = some (.slice po (cnt (tableU u.funcs m) k) co) := (blk hO9).1 1
      have of := (blk hO9).2
      have oz := ltHeap hO9
      have hrel : (∃ So, SlO 37 4 FunO (w8.setCell ⟨w2.heap.size, 1, none⟩ (.slice pv (cnt (tableU u.funcs m) (k + 1)) cv)) (.slice pv (cnt (tableU u.funcs m) (k + 1)) cv) (keepTo (tableU u.funcs m) u.funcs (k + 1)) So ∧ (∀ b, So b → (∃ j, j < k + 1 ∧ Tj j b) ∨ W2.heap.size ≤ b)) ∧ (w8.setCell ⟨w2.heap.size, 1, none⟩ (.slice pv (cnt (tableU u.funcs m) (k + 1)) cv)).heap[w2.heap.size]? = some (.cells #[.slice p1 u.globals.length c1, .slice pv (cnt (tableU u.funcs m) (k + 1)) cv] 25 (0, 0)) ∧
          ((w8.setCell ⟨w2.heap.size, 1, none⟩ (.slice pv (cnt (tableU u.funcs m) (k + 1)) cv)).rowIs (w1.heap.size + 1) 3 u.funcs.length fun j => .int .i64 (atD (tableU u.funcs m) (k + 1) j)) ∧ Kept (fun b => b = w2.heap.size ∨ b = w1.heap.size + 1 ∨ ∃ j, j < k + 1 ∧ Tj j b) W2 (w8.setCell ⟨w2.heap.size, 1, none⟩ (.slice pv (cnt (tableU u.funcs m) (k + 1)) cv)) := by
        have hlo : ∀ b, S' b → (∃ j, j < k + 1 ∧ Tj j b) ∨ W2.heap.size ≤ b := fun b hb => by
          rcases hsub b hb with h | h | h
          · exact (HSob.out b h).elim (fun ⟨j, h1, h2⟩ => .inl ⟨j, by omega, h2⟩) .inr
          · exact .inl ⟨k, by omega, h⟩
          · exact .inr (by omega)
        refine ⟨⟨S', ?_, hlo⟩, ?_, ?_, ?_⟩
        · rw [keepTo_succ_yes hlt hhad]
          exact hO8.loc locFun (fun i hi => Go.Deep.blk_setCell_other _ _ _ _ (fun e => by
            have e2 : i = w2.heap.size := e
            rcases hlo i hi with ⟨j, h1, h2⟩ | h
            · have := hTl j (by omega) _ h2; omega
            · omega)) (by simp [World.setCell])
        · rw [heap_set hO9 1 _]
          rfl
        · exact hRow9.setOther (by show w1.heap.size + 1 ≠ w2.heap.size; omega) _
        · have kA : Kept (fun b => b = w2.heap.size ∨ b = w1.heap.size + 1 ∨ ∃ j, j < k + 1 ∧ Tj j b) W2 W3 := (HK.out.mono fun b _ h => or3 h (fun h => .inl h) (fun h => .inr (.inl h)) (fun ⟨j, h1, h2⟩ => .inr (.inr ⟨j, by omega, h2⟩))).trans (S' := fun b => b = w1.heap.size + 1) ⟨by rw [hW3]; rfl, by rw [hW3]; rfl, by rw [hW3]; rfl, by omega, fun b h1 h2 => hb3 b h1 h2⟩ (fun _ _ h => .inr (.inl h))
          exact (kA.trans hK8 (fun i hi h => (HSob.out i h).elim (fun ⟨j, h1, h2⟩ => .inr (.inr ⟨j, by omega, h2⟩)) (fun h => by omega))).setCell (.inl rfl) _
      rw [hc1] at hrel
      have HRel := hidI hrel
      clear hO9 hO8 hsub hK8 hrel hRow9
      go_wp2_with fail
      exact ⟨⟨k + 1, .slice pv (cnt (tableU u.funcs m) k + 1) cv, by omega, by go_num, HRel.out.1, HRel.out.2.1, HRel.out.2.2.1, HRel.out.2.2.2⟩, by simp [intOf]; omega⟩
    · obtain rfl : k = u.funcs.length := by omega
      obtain ⟨W4, hW4⟩ : ∃ W4, W4 = wr := ⟨_, rfl⟩
      rw [← hW4] at HSo HOb HRow HK hsz obz ob0 ob1 obf hMb hMb1 hMz
      obtain ⟨at_, hat⟩ : ∃ at_ : Int → Int, at_ = fun x => atD (tableU u.funcs m) u.funcs.length x.toNat := ⟨_, rfl⟩
      obtain ⟨xs, hxs⟩ : ∃ xs, xs = keepTo (tableU u.funcs m) u.funcs u.funcs.length := ⟨_, rfl⟩
      have hxl : xs.length = cnt (tableU u.funcs m) u.funcs.length := by rw [hxs, keepTo_len _ _ _ (Nat.le_refl _)]
      rw [← hxs] at HSo
      have HXS := hidI hxs
      have HAT := hidI hat
      clear hxs hat
      rw [← hW4]
      clear hW4
      go_wp2_with fail
      refine (wpIn_wide (n := 3)).1 ?_
      refine wpIn_loop (fun a' w' => ∃ (k : Nat) (Ds : List Nat), (k ≤ cnt (tableU u.funcs m) u.funcs.length ∧ Ds.Nodup ∧ (∀ D ∈ Ds, W4.heap.size ≤ D ∧ w'.heap[D]? = some (.deferred (some []))) ∧ SlO 37 4 FunO w' (.slice po (cnt (tableU u.funcs m) u.funcs.length) co) (renTo at_ xs k) So ∧ Kept So W4 w') ∧ a'.defers = marks Ds ∧ a'.tmps.size = 86 ∧ a'.tmps.getD 2 undef = .pointer (some ⟨w.heap.size + 1, 0, none⟩) ∧ a'.tmps.getD 3 undef = .pointer (some ⟨w.heap.size + 1 + 1, 0, none⟩) ∧ a'.tmps.getD 6 undef = .pointer (some ⟨w1.heap.size + 1 + 1, 0, none⟩) ∧ a'.tmps.getD 7 undef = .pointer (some ⟨w2.heap.size, 0, none⟩) ∧ a'.tmps.getD 58 undef = .int .i64 (cnt (tableU u.funcs m) u.funcs.length) ∧ a'.tmps.getD 59 undef = .int .i64 k) (fun a' _ => cnt (tableU u.funcs m) u.funcs.length - (intOf (a'.tmps.getD 59 undef)).toNat) ?start ?round
      case start =>
        exact ⟨0, [], ⟨Nat.zero_le _, List.nodup_nil, fun D h => (by cases h), by rw [renTo_zero]; exact HSo.out, Kept.refl _ _⟩, rfl, rfl, rfl, rfl, rfl, rfl, rfl, rfl⟩
      case round =>
        rintro ⟨ts, ds⟩ w5 ⟨k, Ds, ⟨hk2, hN, hD, hL, hK5⟩, hdf, hfs, hf2, hf3, hf6, hf7, hf58, hf59⟩
        simp only at hdf hfs hf2 hf3 hf6 hf7 hf58 hf59
        subst hdf
        obtain ⟨us, hus⟩ : ∃ us : Nat → Value, us = fun i => ts.getD i undef := ⟨_, rfl⟩
        have hts : ts = #[us 0, us 1, .pointer (some ⟨w.heap.size + 1, 0, none⟩), .pointer (some ⟨w.heap.size + 1 + 1, 0, none⟩), us 4, us 5, .pointer (some ⟨w1.heap.size + 1 + 1, 0, none⟩), .pointer (some ⟨w2.heap.size, 0, none⟩), us 8, us 9, us 10, us 11, us 12, us 13, us 14, us 15, us 16, us 17, us 18, us 19, us 20, us 21, us 22, us 23, us 24, us 25, us 26, us 27, us 28, us 29, us 30, us 31, us 32, us 33, us 34, us 35, us 36, us 37, us 38, us 39, us 40, us 41, us 42, us 43, us 44, us 45, us 46, us 47, us 48, us 49, us 50, us 51, us 52, us 53, us 54, us 55, us 56, us 57, .int .i64 (cnt (tableU u.funcs m) u.funcs.length), .int .i64 k, us 60, us 61, us 62, us 63, us 64, us 65, us 66, us 67, us 68, us 69, us 70, us 71, us 72, us 73, us 74, us 75, us 76, us 77, us 78, us 79, us 80, us 81, us 82, us 83, us 84, us 85] := by
          have h1 := frame_list hfs
          rw [← hus] at h1
          have h2 : us 2 = .pointer (some ⟨w.heap.size + 1, 0, none⟩) := by rw [hus]; exact hf2
          have h3 : us 3 = .pointer (some ⟨w.heap.size + 1 + 1, 0, none⟩) := by rw [hus]; exact hf3
          have h6 : us 6 = .pointer (some ⟨w1.heap.size + 1 + 1, 0, none⟩) := by rw [hus]; exact hf6
          have h7 : us 7 = .pointer (some ⟨w2.heap.size, 0, none⟩) := by rw [hus]; exact hf7
          have h58 : us 58 = .int .i64 (cnt (tableU u.funcs m) u.funcs.length) := by rw [hus]; exact hf58
          have h59 : us 59 = .int .i64 k := by rw [hus]; exact hf59
          refine h1.trans ?_
          show #[us 0, us 1, us 2, us 3, us 4, us 5, us 6, us 7, us 8, us 9, us 10, us 11, us 12, us 13, us 14, us 15, us 16, us 17, us 18, us 19, us 20, us 21, us 22, us 23, us 24, us 25, us 26, us 27, us 28, us 29, us 30, us 31, us 32, us 33, us 34, us 35, us 36, us 37, us 38, us 39, us 40, us 41, us 42, us 43, us 44, us 45, us 46, us 47, us 48, us 49, us 50, us 51, us 52, us 53, us 54, us 55, us 56, us 57, us 58, us 59, us 60, us 61, us 62, us 63, us 64, us 65, us 66, us 67, us 68, us 69, us 70, us 71, us 72, us 73, us 74, us 75, us 76, us 77, us 78, us 79, us 80, us 81, us 82, us 83, us 84, us 85] = _
          rw [h2, h3, h6, h7, h58, h59]
        clear hus hfs hf2 hf3 hf6 hf7 hf58 hf59
        subst hts
        have HN := hidI hN
        have HD := hidI hD
        have HL := hidI hL
        have HK5 := hidI hK5
        have hz5 := hK5.size
        clear hN hD hL hK5
        have hSoU : ∀ b, So b → w1.heap.size + 1 + 1 + 1 ≤ b ∧ b ≠ w2.heap.size ∧ b < W4.heap.size := fun b hb => by
          have h1 := HSo.out.inb b hb
          rcases HSob.out b hb with ⟨j, h2, h3⟩ | h2
          · have := HSl.out b (HSS.out.2.2 b (HSF.out.1.sub j (by omega) b h3))
            have := HSF.out.1.inb b (HSF.out.1.sub j (by omega) b h3)
            omega
          · omega
        have HSoU := hidI hSoU
        clear hSoU
        have hO5 := (HK5.out.block w2.heap.size obz (fun h => (HSoU.out _ h).2.1 rfl)).trans HOb.out
        have ob1 : w5.cell? ⟨w2.heap.size, 1, none⟩ = some (.slice po (cnt (tableU u.funcs m) u.funcs.length) co) := (blk hO5).1 1
        have oz5 := ltHeap hO5
        by_cases hlt : k < cnt (tableU u.funcs m) u.funcs.length
        · have hkx : k < (renTo at_ xs k).length := by rw [renTo_len, hxl]; exact hlt
          obtain ⟨g, c5, cs5, T5, hv5, hgz5, hgS5, hcl5, hF5, hgT5, hTS5, hce5, hfr5, ⟨cur5, hcur5⟩, hput5⟩ := HL.out.focus locFun (by omega) hkx
          have hv6 : po = some ⟨g, 0, none⟩ ∧ co = c5 := by
            injection hv5 with a b c
            exact ⟨a, c⟩
          obtain ⟨rfl, rfl⟩ := hv6
          clear hv5
          gi_wp2_with (refine ⟨trivial, ?_⟩; gi_at_call 31; refine ((callsIn_wide (n := 2)).2 (each_any _ _)).mono ?_; rintro e w7 ⟨rfl, rfl⟩)
          gi_wp2
          have hkx2 : k < xs.length := by rw [hxl]; exact hlt
          rw [renTo_get hkx2] at hF5
          obtain ⟨f, hf⟩ : ∃ f, f = xs[k] := ⟨_, rfl⟩
          rw [← hf] at hF5
          have HFx := hidI hf
          clear hf
          obtain ⟨fa, hfa, _, _, hfe⟩ := keepTo_mem (had := tableU u.funcs m) (xs := u.funcs) (f := f) (k := u.funcs.length) (by rw [← HXS.out, HFx.out]; exact List.getElem_mem hkx2)
          have hOk := (chk_ok HH.out).2
          have hf0 : 0 < f.blocks.length := by have := (hOk.fn hfa).2.2.1.1; rw [hfe] at this; omega
          have hfc : ∀ x ∈ allIns f, x.op = 20 → 0 ≤ x.fn ∧ x.fn < (u.funcs.length : Int) := fun x hx ho => by
            rw [← hfe] at hx
            exact hOk.callees hfa x.fn (List.mem_map.2 ⟨x, List.mem_filter.2 ⟨hx, by simp [ho]⟩, rfl⟩)
          obtain ⟨bb, cb, hcs5, hTbb, hbl5, hls5⟩ := hF5.lists hf0
          obtain ⟨W0, hW0⟩ : ∃ W0, W0 = w5.alloc (.cells #[.pointer (some ⟨g, k * 4, none⟩)] 86) := ⟨_, rfl⟩
          rw [← hW0]
          have hz0 : W0.heap.size = w5.heap.size + 1 := by rw [hW0]; simp
          have hbW0 : Below w5.heap.size w5 W0 := by rw [hW0]; exact (Below.refl _ _).alloc (Nat.le_refl _) _
          have hBx0 : W0.cell? ⟨w5.heap.size, 0, none⟩ = some (.pointer (some ⟨g, k * 4, none⟩)) := by rw [hW0]; exact (blk (heap_here w5 _)).1 0
          clear hW0
          have hbl : f.blocks.length * 96 ≤ 140737488351232 := hbl5
          have hsh0 : EachSh w5.heap.size g (k * 4) (some ⟨bb, 0, none⟩) f.blocks.length cb (lqW w5 bb) (listLen f) (lcW w5 bb) W0 := by
            refine ⟨hBx0, ?_, fun mm hmm => ⟨bb, 0, rfl, ?_⟩⟩
            · rw [hbW0.cell (p := ⟨g, k * 4 + 3, none⟩) hgz5, hce5 3 (by omega), hcs5]
              rfl
            · have hbz : bb < w5.heap.size := HL.out.inb bb (hTS5 bb hTbb)
              rw [Nat.zero_add, hbW0.cell (p := ⟨bb, mm * 6 + 1, none⟩) hbz]
              exact (hls5 mm hmm).1
          have hKW0 : Kept So W4 W0 := HK5.out.trans (Kept.of_below (S := fun _ => False) hbW0) (fun _ _ h => h.elim)
          have HSH := hidI hsh0
          have HLS := hidI hls5
          have HFC := hidI hfc
          have HKW0 := hidI hKW0
          have hSW0 : ∀ b, So b → b < W0.heap.size := fun b hb => by have := (HSoU.out b hb).2.2; omega
          have HL0 : SlO 37 4 FunO W0 (.slice (some ⟨g, 0, none⟩) (cnt (tableU u.funcs m) u.funcs.length) co) ((renTo at_ xs k).set k (upI (fun _ => renI at_) f 0)) So := by
            rw [upI_zero]
            have e1 : (renTo at_ xs k).set k f = renTo at_ xs k := by
              have e2 := renTo_get (at_ := at_) hkx2
              rw [HFx.out, ← e2, List.set_getElem_self]
            rw [e1]
            exact HL.out.below locFun hbW0
          have HL0 := hidI HL0
          clear hsh0 hls5 hfc hKW0 hput5 hce5 hF5 hcs5
          refine wpIn_rangeAt rfl (by omega) (gf := 67) (lb := #[.pointer (some ⟨w5.heap.size, 0, none⟩)]) rfl trivial (enters_of Tryd.func67 (by kernel_rfl) rfl)
            (each_at Fence.wide 2 trivial rfl (by omega) w5.heap.size g (k * 4) cb f.blocks.length (some ⟨bb, 0, none⟩) (lqW w5 bb) (lpW w5 bb) (listLen f) (lcW w5 bb) W0 hbl (fun mm hmm => (HLS.out mm hmm).2.1) (fun mm hmm h0 => (HLS.out mm hmm).2.2 h0) HSH.out) (fun h k x => k (h x)) (fun W l o o' _ hl ho _ h => h.putObj o' hl ho) (Below.refl _ _) (fun i _ => rfl)
            (fun i W => SlO 37 4 FunO W (.slice (some ⟨g, 0, none⟩) (cnt (tableU u.funcs m) u.funcs.length) co) ((renTo at_ xs k).set k (upI (fun _ => renI at_) f i)) So ∧ EachSh w5.heap.size g (k * 4) (some ⟨bb, 0, none⟩) f.blocks.length cb (lqW w5 bb) (listLen f) (lcW w5 bb) W ∧ Kept So W0 W) (fun _ _ _ => False)
            ((own_slo locFun hSW0 _).and (own_sh.and (own_kept (Nat.le_refl _)))) (fun _ _ _ _ _ hs _ _ => hs) ⟨HL0.out, HSH.out, Kept.refl _ _⟩
            (fun i => { tmps := #[us 0, us 1, .pointer (some ⟨w.heap.size + 1, 0, none⟩), .pointer (some ⟨w.heap.size + 1 + 1, 0, none⟩), us 4, us 5, .pointer (some ⟨w1.heap.size + 1 + 1, 0, none⟩), .pointer (some ⟨w2.heap.size, 0, none⟩), us 8, us 9, us 10, .int .i64 k, eachPt (lpW w5 bb) (listLen f) f.blocks.length i, us 13, us 14, us 15, us 16, us 17, us 18, us 19, us 20, us 21, us 22, us 23, us 24, us 25, us 26, us 27, us 28, us 29, us 30, us 31, us 32, us 33, us 34, us 35, us 36, us 37, us 38, us 39, us 40, us 41, us 42, us 43, us 44, us 45, us 46, us 47, us 48, us 49, us 50, us 51, us 52, us 53, us 54, us 55, us 56, us 57, .int .i64 (cnt (tableU u.funcs m) u.funcs.length), .int .i64 k, .bool true, .int .i64 k, .pointer (some ⟨w2.heap.size, 1, none⟩), .slice (some ⟨g, 0, none⟩) (cnt (tableU u.funcs m) u.funcs.length) co, .int .i64 k, .pointer (some ⟨g, k * 4, none⟩), .func (.func 67) #[] #[.pointer (some ⟨w5.heap.size, 0, none⟩)], eachPt (lpW w5 bb) (listLen f) f.blocks.length i, us 68, us 69, us 70, us 71, us 72, us 73, us 74, us 75, us 76, us 77, us 78, us 79, us 80, us 81, us 82, us 83, us 84, us 85], defers := [] }) ?assign ?body ?done ?stop
          case assign =>
            intro l i W K hi hK
            unfold eachEl
            gi_wp2
            exact hK
          case body =>
            rintro l i W hl hi ⟨hSl, hSh, hKp⟩
            obtain ⟨m', j, hm', hj, rfl⟩ := posL_of_lt hi
            have hj2 : j < f.blocks[m'].list.length := by rw [← listLen_eq hm']; exact hj
            have hkl : k < ((renTo at_ xs k).set k (upI (fun _ => renI at_) f ((posL (listLen f) m').length + j))).length := by rw [List.length_set, renTo_len]; exact hkx2
            obtain ⟨g', c', cs', T', hv', hgz', hgS', hcl', hF', hgT', hTS', hce', hfr', ⟨cur', hcur'⟩, hput'⟩ := hSl.focus locFun (by omega) hkl
            have hg' : g = g' := by
              injection hv' with a
              injection a with a
              injection a
            subst hg'
            rw [List.getElem_set_self] at hF'
            have hmu : m' < (upI (fun _ => renI at_) f ((posL (listLen f) m').length + j)).blocks.length := by rw [upI_len]; exact hm'
            have hju : j < ((upI (fun _ => renI at_) f ((posL (listLen f) m').length + j)).blocks[m']'hmu).list.length := by rw [upI_list hm']; exact hj2
            obtain ⟨bb', cb', lb, c2', ci, Ti, hcs', hlc', hTbb', hTlb', hlbbb, hI, hTilb, hTibb, hTiT, hci, hcil, hfri, ⟨curi, hcuri⟩, hputi⟩ := hF'.ins hmu hju
            rw [upI_get hm' hj2] at hI
            have hbb : bb = bb' := by
              have h1 := hce' 3 (by omega)
              rw [hcs'] at h1
              have h2 := hSh.fn.symm.trans h1
              simp at h2
              exact h2.1
            subst hbb
            have hlq : lpW w5 bb m' = (lb, 0) := by
              obtain ⟨b6, o6, hq6, hc6⟩ := hSh.blk m' hm'
              cases hq6
              rw [Nat.zero_add] at hc6
              have h2 := hc6.symm.trans hlc'
              simp at h2
              unfold lpW
              rw [h2.1]
            have hpt : eachPt (lpW w5 bb) (listLen f) f.blocks.length ((posL (listLen f) m').length + j) = .pointer (some ⟨lb, j * 8, none⟩) := by
              rw [eachPt_at hm' hj, hlq]
              simp
            rw [hpt]
            obtain ⟨x, hx⟩ : ∃ x, x = f.blocks[m'].list[j] := ⟨_, rfl⟩
            rw [← hx] at hI
            obtain ⟨va, rfl, y1, y2, y3, y4, y5, hA⟩ := hI
            have x0 : W.cell? ⟨lb, j * 8, none⟩ = some (.int .i64 x.op) := hci 0 (by omega)
            have x6 : W.cell? ⟨lb, j * 8 + 6, none⟩ = some (.int .i64 x.fn) := hci 6 (by omega)
            have hlbz := lt_of_cell x0
            have hSlb : So lb := hTS' lb hTlb'
            have HX := hidI hx
            clear hx
            have hxa : x ∈ allIns f := by
              rw [HX.out]
              exact List.mem_flatMap.2 ⟨f.blocks[m'], List.getElem_mem hm', List.getElem_mem hj2⟩
            have hKpW : Kept So W4 W := HKW0.out.trans hKp (fun _ _ h => h)
            have hnM : ¬ So (w1.heap.size + 1) := fun h => by have := (HSoU.out _ h).1; omega
            have hnM1 : ¬ So (w1.heap.size + 1 + 1) := fun h => by have := (HSoU.out _ h).1; omega
            have hmW : W.cell? ⟨w1.heap.size + 1 + 1, 0, none⟩ = some (.slice (some ⟨w1.heap.size + 1, 0, none⟩) u.funcs.length u.funcs.length) := (hKpW.cell (p := ⟨w1.heap.size + 1 + 1, 0, none⟩) hMz hnM1).trans hMb
            have hRowW := HRow.out.of_block (hKpW.block (w1.heap.size + 1) HRow.out.lt hnM)
            cases hop : (x.op == 20)
            · have hid : renI at_ f.blocks[m'].list[j] = f.blocks[m'].list[j] := by
                rw [← HX.out]
                unfold renI
                rw [if_neg (by simpa using hop)]
              have hI' : SlO 37 4 FunO W (.slice (some ⟨g, 0, none⟩) (cnt (tableU u.funcs m) u.funcs.length) co) ((renTo at_ xs k).set k (upI (fun _ => renI at_) f ((posL (listLen f) m').length + j + 1))) So := by
                rw [← upI_same hm' hj2 hid]
                exact hSl
              have HI' := hidI hI'
              clear hI' hid
              gi_wp2
              exact ⟨KeepsFrom.refl _ _, fun h => h, HI'.out, hSh, hKp⟩
            · have ho20 : x.op = 20 := by simpa using hop
              obtain ⟨hfn0, hfn1⟩ := HFC.out x hxa ho20
              obtain ⟨n0, hn0⟩ : ∃ n0 : Nat, x.fn = (n0 : Int) := ⟨x.fn.toNat, by omega⟩
              rw [hn0] at x6
              have hn0l : n0 < u.funcs.length := by omega
              have hcM := hRowW.cell hn0l
              clear ho20
              gi_wp2
              refine wpIn_region_round (S := (fun W' : World => W'.cell? ⟨w1.heap.size + 1 + 1, 0, none⟩ = some (.slice (some ⟨w1.heap.size + 1, 0, none⟩) u.funcs.length u.funcs.length) ∧ W'.cell? ⟨lb, j * 8 + 6, none⟩ = some (.int .i64 (n0 : Int)) ∧ W'.cell? ⟨w1.heap.size + 1, n0, none⟩ = some (.int .i64 (atD (tableU u.funcs m) u.funcs.length n0)))) (by kernel_rfl) (fun ⟨_, _, h⟩ => h.2) (by kernel_rfl) 10 ?_
              have hSp : (fun W' : World => W'.cell? ⟨w1.heap.size + 1 + 1, 0, none⟩ = some (.slice (some ⟨w1.heap.size + 1, 0, none⟩) u.funcs.length u.funcs.length) ∧ W'.cell? ⟨lb, j * 8 + 6, none⟩ = some (.int .i64 (n0 : Int)) ∧ W'.cell? ⟨w1.heap.size + 1, n0, none⟩ = some (.int .i64 (atD (tableU u.funcs m) u.funcs.length n0))) W.drew := ⟨hmW, x6, hcM⟩
              have g1 : (0 : Int) ≤ (n0 : Int) := by omega
              have g2 : (n0 : Int) < u.funcs.length := by omega
              refine takeZ 0 73 (.pointer (some ⟨lb, j * 8, none⟩)) rfl rfl (by kernel_rfl) (by kernel_rfl) (by kernel_rfl) (by kernel_rfl) (fun _ _ _ h => h) (.inl ⟨rfl, fun W' hS' => (by obtain ⟨h1, h2, h3⟩ := hS'; go_simp)⟩) hSp ?_
              refine takeZ 1 74 (.slice (some ⟨w1.heap.size + 1, 0, none⟩) u.funcs.length u.funcs.length) rfl rfl (by kernel_rfl) (by kernel_rfl) (by kernel_rfl) (by kernel_rfl) (fun _ _ _ h => h) (.inl ⟨rfl, fun W' hS' => (by obtain ⟨h1, h2, h3⟩ := hS'; go_simp)⟩) hSp ?_
              refine takeZ 2 75 (.pointer (some ⟨lb, j * 8, none⟩)) rfl rfl (by kernel_rfl) (by kernel_rfl) (by kernel_rfl) (by kernel_rfl) (fun _ _ _ h => h) (.inl ⟨rfl, fun W' hS' => (by obtain ⟨h1, h2, h3⟩ := hS'; go_simp)⟩) hSp ?_
              refine takeZ 3 76 (.pointer (some ⟨lb, j * 8, none⟩)) rfl rfl (by kernel_rfl) (by kernel_rfl) (by kernel_rfl) (by kernel_rfl) (fun _ _ _ h => h) (.inl ⟨rfl, fun W' hS' => (by obtain ⟨h1, h2, h3⟩ := hS'; go_simp)⟩) hSp ?_
              refine takeZ 4 77 (.pointer (some ⟨lb, j * 8 + 6, none⟩)) rfl rfl (by kernel_rfl) (by kernel_rfl) (by kernel_rfl) (by kernel_rfl) (fun _ _ _ h => h) (.inl ⟨rfl, fun W' hS' => (by obtain ⟨h1, h2, h3⟩ := hS'; go_simp)⟩) hSp ?_
              refine takeZ 5 78 (.int .i64 (n0 : Int)) rfl rfl (by kernel_rfl) (by kernel_rfl) (by kernel_rfl) (by kernel_rfl) (fun _ _ _ h => h) (.inl ⟨rfl, fun W' hS' => (by obtain ⟨h1, h2, h3⟩ := hS'; go_simp)⟩) hSp ?_
              refine takeZ 6 79 (.pointer (some ⟨w1.heap.size + 1, n0, none⟩)) rfl rfl (by kernel_rfl) (by kernel_rfl) (by kernel_rfl) (by kernel_rfl) (fun _ _ _ h => h) (.inl ⟨rfl, fun W' hS' => (by obtain ⟨h1, h2, h3⟩ := hS'; go_simp)⟩) hSp ?_
              refine takeZ 7 80 (.int .i64 (atD (tableU u.funcs m) u.funcs.length n0)) rfl rfl (by kernel_rfl) (by kernel_rfl) (by kernel_rfl) (by kernel_rfl) (fun _ _ _ h => h) (.inl ⟨rfl, fun W' hS' => (by obtain ⟨h1, h2, h3⟩ := hS'; go_simp)⟩) hSp ?_
              refine stepZ_1 (i := 8) (by kernel_rfl) (stepZ_to 81 (.pointer (some ⟨lb, j * 8, none⟩)) W.drew rfl rfl rfl (by go_simp) hSp ?_)
              refine takeZ 9 82 (.pointer (some ⟨lb, j * 8 + 6, none⟩)) rfl rfl (by kernel_rfl) (by kernel_rfl) (by kernel_rfl) (by kernel_rfl) (fun _ _ _ h => h) (.inl ⟨rfl, fun W' hS' => (by obtain ⟨h1, h2, h3⟩ := hS'; go_simp)⟩) hSp ?_
              refine stepZ_1 (i := 10) (by kernel_rfl) (stepZ_skipNo (W.drew.setCell ⟨lb, j * 8 + 6, none⟩ (.int .i64 (atD (tableU u.funcs m) u.funcs.length n0))) rfl rfl rfl (by go_simp) (fun h => absurd rfl h) (wpAnyZ_done (by kernel_rfl) ?_ _))
              obtain ⟨W', hW'⟩ : ∃ W', W' = W.drew.setCell ⟨lb, j * 8 + 6, none⟩ (.int .i64 (atD (tableU u.funcs m) u.funcs.length n0)) := ⟨_, rfl⟩
              rw [← hW']
              have hgr : W.grownBy W' (some lb) := by
                rw [hW']
                exact ⟨rfl, rfl, rfl, by rw [Go.Deep.nblk_setCell]; exact Nat.le_refl _, fun b _ hne => Go.Deep.blk_setCell_other W.drew _ _ _ (fun e => hne (by rw [e]))⟩
              have hlbB : lb < W0.heap.size := hSW0 lb hSlb
              have hne : ∀ b, b ≠ lb → W'.heap[b]? = W.heap[b]? := fun b hb => by rw [hW']; exact Go.Deep.blk_setCell_other W.drew ⟨lb, j * 8 + 6, none⟩ _ b hb
              have hszW : W'.heap.size = W.heap.size := by rw [hW', Go.Deep.nblk_setCell]; rfl
              have hat : renI at_ x = { x with fn := atD (tableU u.funcs m) u.funcs.length n0 } := by
                unfold renI
                rw [if_pos (by simpa using hop), HAT.out, hn0]
                simp
              have hatI : I64 (atD (tableU u.funcs m) u.funcs.length n0) := by
                have := cnt_le (tableU u.funcs m) n0
                unfold atD I64
                split <;> omega
              have hput1 : RowPut W W' 53 lb (j * 8) 8 ([.int .i64 x.op, .int .i64 x.dst, .bool x.ar, .int .i64 x.an, .bool x.br, .int .i64 x.bn, .int .i64 x.fn, va].set 6 (.int .i64 (atD (tableU u.funcs m) u.funcs.length n0))) := by
                rw [hW']
                exact RowPut.set (w' := W.drew) (RowPut.same hcuri rfl hci) rfl (by omega) _
              obtain ⟨qa, ca, rfl, _⟩ := hA.sl.val
              have hF2 := hputi W' _ (renI at_ x) Ti hput1 rfl (fun v hv => ?_) (by omega) (fun b hb h1 h2 => hne b h2) (by
                  rw [hat]
                  exact ⟨_, rfl, y1, y2, y3, y4, hatI, hA.loc locVal (fun _ h => h) (fun b hb => hne b (fun e => hTilb (by rw [← e]; exact hb))) (by omega)⟩) (fun b hb => ⟨.inl hb, by have := hA.sl.inb b hb; omega⟩)
              · have hF3 := hput' W' cs' _ (fun b => T' b ∨ Ti b) (RowPut.same hcur' (hne _ (fun e => hgT' (by rw [e]; exact hTlb'))) hce') hcl' (fun v hv => ?_) (by omega) (fun b hb h1 h2 => hne b (fun e => h1 (by rw [e]; exact hTlb'))) hF2 (fun b hb => ?_)
                · have hFin : SlO 37 4 FunO W' (.slice (some ⟨g, 0, none⟩) (cnt (tableU u.funcs m) u.funcs.length) co) ((renTo at_ xs k).set k (upI (fun _ => renI at_) f ((posL (listLen f) m').length + j + 1))) So := by
                    rw [List.set_set, HX.out, upI_succ (g := fun _ => renI at_) hm' hj2] at hF3
                    exact hF3.grow (fun b hb => hb.elim id fun h => h.elim (hTS' b) fun h => hTS' b (hTiT b h)) (fun b hb => by have := hSl.inb b hb; omega)
                  have hShF : EachSh w5.heap.size g (k * 4) (some ⟨bb, 0, none⟩) f.blocks.length cb (lqW w5 bb) (listLen f) (lcW w5 bb) W' := hSh.other fun b o v hc hw => by
                    refine (World.cell?_of_block (a := ⟨b, o, none⟩) (hne b ?_)).trans hc
                    rcases hw with e | e | ⟨o', e⟩
                    · have := (HSoU.out lb hSlb).2.2
                      omega
                    · intro e2
                      exact hgT' (by rw [← e, e2]; exact hTlb')
                    · have e3 : bb = b := by injection e with e; injection e
                      intro e2
                      exact hlbbb (by rw [← e2, e3])
                  have hKF : KeepsFrom W0.heap.size W W' := KeepsFrom.of_grownBy hgr (fun b e => by cases e; exact hlbB)
                  have hKp' : Kept So W0 W' := by rw [hW']; exact hKp.drew.setCell hSlb _
                  exact ⟨hKF, fun _ => hShF, hFin, hShF, hKp'⟩
                · rw [hcs'] at hv
                  simp only [List.mem_cons, List.not_mem_nil, or_false] at hv
                  rcases hv with rfl | rfl | rfl | rfl <;> rfl
                · have h1 : T' b := hb.elim id (hTiT b)
                  exact ⟨.inl h1, by have := hSl.inb b (hTS' b h1); omega⟩
              · simp only [List.set_cons_succ, List.set_cons_zero, List.mem_cons, List.not_mem_nil, or_false] at hv
                rcases hv with rfl | rfl | rfl | rfl | rfl | rfl | rfl | rfl <;> rfl
          case done =>
            rintro D W hD ⟨hSl, hSh, hKp⟩ hDl
            have hSl' : SlO 37 4 FunO W (.slice (some ⟨g, 0, none⟩) (cnt (tableU u.funcs m) u.funcs.length) co) (renTo at_ xs (k + 1)) So := by
              rw [upI_all, HFx.out] at hSl
              rw [← renTo_set hkx2]
              exact hSl
            have hKpW : Kept So W4 W := HKW0.out.trans hKp (fun _ _ h => h)
            have HSl' := hidI hSl'
            have HKpW := hidI hKpW
            have HKp := hidI hKp
            have HDl := hidI hDl
            clear hSl hSh hKp hDl hSl' hKpW
            have hDs : ∀ D' ∈ Ds, D' < w5.heap.size := fun D' h => ltHeap (HD.out D' h).2
            have HDs := hidI hDs
            clear hDs
            gi_wp2
            refine ⟨⟨k + 1, D :: Ds, ⟨by omega, List.nodup_cons.2 ⟨fun h => by have := HDs.out D h; omega, HN.out⟩, fun D' h => ?_, HSl'.out, HKpW.out⟩, rfl, rfl, rfl, rfl, rfl, rfl, rfl, rfl⟩, ?_⟩
            · rcases List.mem_cons.1 h with rfl | h
              · exact ⟨by omega, HDl.out⟩
              · obtain ⟨e1, e2⟩ := HD.out D' h
                have e3 := HDs.out D' h
                exact ⟨e1, (HKp.out.block D' (by omega) (fun h => by have := (HSoU.out D' h).2.2; omega)).trans ((hbW0.block D' e3).trans e2)⟩
            · show cnt (tableU u.funcs m) u.funcs.length - ((k : Int) + 1).toNat < cnt (tableU u.funcs m) u.funcs.length - ((k : Int)).toNat
              omega
          case stop =>
            rintro D c i W _ _ h _
            exact h.elim
        · obtain rfl : k = cnt (tableU u.funcs m) u.funcs.length := by omega
          have ob0 : w5.cell? ⟨w2.heap.size, 0, none⟩ = some (.slice p1 u.globals.length c1) := (blk hO5).1 0
          have hRb : ∀ b, b ≤ w.heap.size + 1 + 1 → w5.heap[b]? = w1.heap[b]? := fun b hb => by
            have hbz : b < w1.heap.size := by have := ltHeap HR2.out; omega
            refine (HK5.out.block b (by omega) (fun h => by have := (HSoU.out b h).1; omega)).trans ((HK.out.block b (by omega) (fun h => or3 h (fun h => by omega) (fun h => by omega) fun ⟨j, h1, h2⟩ => by have := (HTl.out j h1 b h2).1; omega)).trans ((HBW.out.block b (by omega)).trans (HB21.out.block b hbz)))
          have hR5 := (hRb (w.heap.size + 1) (by omega)).trans HR.out
          have hR25 := (hRb (w.heap.size + 1 + 1) (by omega)).trans HR2.out
          have rz0 : w5.cell? ⟨w.heap.size + 1, 0, none⟩ = some (.slice none 0 0) := (blk hR5).1 0
          have rz1 : w5.cell? ⟨w.heap.size + 1, 1, none⟩ = some (.slice none 0 0) := (blk hR5).1 1
          have ry0 : w5.cell? ⟨w.heap.size + 1 + 1, 0, none⟩ = some (.int .i64 0) := (blk hR25).1 0
          have ry1 : w5.cell? ⟨w.heap.size + 1 + 1, 1, none⟩ = some (.int .i64 0) := (blk hR25).1 1
          have rf := (blk hR5).2
          have rf2 := (blk hR25).2
          have rl := ltHeap hR5
          have rl2 := ltHeap hR25
          gi_wp2
          go_wp2_with fail
          obtain ⟨WF, hWF⟩ : ∃ WF, WF = (((w5.setCell ⟨w.heap.size + 1, 0, none⟩ (.slice p1 u.globals.length c1)).setCell ⟨w.heap.size + 1, 1, none⟩ (.slice po (cnt (tableU u.funcs m) u.funcs.length) co)).setCell ⟨w.heap.size + 1 + 1, 0, none⟩ (.int .i64 0)).setCell ⟨w.heap.size + 1 + 1, 1, none⟩ (.int .i64 0) := ⟨_, rfl⟩
          rw [← hWF]
          have hFs : WF.heap.size = w5.heap.size := by rw [hWF]; simp [World.setCell]
          have hFo : ∀ b, b ≠ w.heap.size + 1 → b ≠ w.heap.size + 1 + 1 → WF.heap[b]? = w5.heap[b]? := fun b h1 h2 => by
            rw [hWF]
            repeat rw [Go.Deep.blk_setCell_other _ _ _ _ (by assumption)]
          have hF1 : WF.heap[w.heap.size + 1]? = some (.cells #[.slice p1 u.globals.length c1, .slice po (cnt (tableU u.funcs m) u.funcs.length) co] 25 (0, 0)) := by
            rw [hWF, Go.Deep.blk_setCell_other _ ⟨w.heap.size + 1 + 1, 1, none⟩ _ _ (by show w.heap.size + 1 ≠ w.heap.size + 1 + 1; omega), Go.Deep.blk_setCell_other _ ⟨w.heap.size + 1 + 1, 0, none⟩ _ _ (by show w.heap.size + 1 ≠ w.heap.size + 1 + 1; omega), heap_set (heap_set hR5 0 _) 1 _]
            rfl
          have hF2 : WF.heap[w.heap.size + 1 + 1]? = some (.cells #[.int .i64 0, .int .i64 0] 28 (0, 0)) := by
            rw [hWF]
            have e1 : ((w5.setCell ⟨w.heap.size + 1, 0, none⟩ (.slice p1 u.globals.length c1)).setCell ⟨w.heap.size + 1, 1, none⟩ (.slice po (cnt (tableU u.funcs m) u.funcs.length) co)).heap[w.heap.size + 1 + 1]? = some (.cells #[.int .i64 0, .int .i64 0] 28 (0, 0)) := by
              rw [Go.Deep.blk_setCell_other _ ⟨w.heap.size + 1, 1, none⟩ _ _ (by show w.heap.size + 1 + 1 ≠ w.heap.size + 1; omega), Go.Deep.blk_setCell_other _ ⟨w.heap.size + 1, 0, none⟩ _ _ (by show w.heap.size + 1 + 1 ≠ w.heap.size + 1; omega)]
              exact hR25
            rw [heap_set (heap_set e1 0 _) 1 _]
            rfl
          have hB5 : Below w.heap.size w w5 := by
            have b1 := HB1.out
            have b2 : Below w.heap.size w w2 := b1.trans (HB21.out.mono b1.size)
            have b3 : Below w.heap.size w W2 := b2.trans (HBW.out.mono b2.size)
            have b4 : Below w.heap.size w W4 := b3.trans (HK.out.below b3.size fun b h => or3 h (fun h => by omega) (fun h => by omega) fun ⟨j, h1, h2⟩ => by have := (HTl.out j h1 b h2).1; omega)
            exact b4.trans (HK5.out.below b4.size fun b h => by have := (HSoU.out b h).1; omega)
          have hBF : Below w.heap.size w WF := by
            rw [hWF]
            exact (((hB5.setCell (by simp) _).setCell (by simp) _).setCell (by show w.heap.size ≤ w.heap.size + 1 + 1; omega) _).setCell (by show w.heap.size ≤ w.heap.size + 1 + 1; omega) _
          clear hWF
          have hlenD : (doneU (tableU u.funcs m) u).funcs.length = cnt (tableU u.funcs m) u.funcs.length := by
            unfold doneU
            rw [List.length_map, keepTo_len _ _ _ (Nat.le_refl _)]
          show LeavesInM _ _ _ _ _ _ (marks Ds) .returning WF
          refine leaves_marks W4.heap.size Ds WF HN.out (fun D h => ⟨(HD.out D h).1, (hFo D (by have := (HD.out D h).1; omega) (by have := (HD.out D h).1; omega)).trans (HD.out D h).2⟩) (fun w' h1 h2 h3 h4 h5 => ?_)
          have hnD : ∀ b, b < W4.heap.size → b ∉ Ds := fun b hb h => by have := (HD.out b h).1; omega
          have r1 := (h5 (w.heap.size + 1) (hnD _ (by omega))).trans hF1
          have r2 := (h5 (w.heap.size + 1 + 1) (hnD _ (by omega))).trans hF2
          have q0 : w'.cell? ⟨w.heap.size + 1, 0, none⟩ = some (.slice p1 u.globals.length c1) := (blk r1).1 0
          have q1 : w'.cell? ⟨w.heap.size + 1, 1, none⟩ = some (.slice po (cnt (tableU u.funcs m) u.funcs.length) co) := (blk r1).1 1
          have q2 : w'.cell? ⟨w.heap.size + 1 + 1, 0, none⟩ = some (.int .i64 0) := (blk r2).1 0
          have q3 : w'.cell? ⟨w.heap.size + 1 + 1, 1, none⟩ = some (.int .i64 0) := (blk r2).1 1
          have hto : ∀ b, b < W4.heap.size → w.heap.size + 1 + 1 < b → w'.heap[b]? = w5.heap[b]? := fun b hb h => (h5 b (hnD b hb)).trans (hFo b (by omega) (by omega))
          have hSGb : ∀ b, S1 b → w'.heap[b]? = w2.heap[b]? := fun b hb => by
            have e1 := HSl.out b (HSS.out.2.1 b hb)
            have e2 := HSG.out.sl.inb b hb
            refine (hto b (by omega) (by omega)).trans ((HK5.out.block b (by omega) (fun h => ?_)).trans ((HK.out.block b (by omega) (fun h => or3 h (fun h => by omega) (fun h => by omega) fun ⟨j, h1, h2⟩ => HSS.out.1 b hb (HSF.out.1.sub j h1 b h2))).trans (HBW.out.block b e2)))
            rcases HSob.out b h with ⟨j, h6, h7⟩ | h6
            · exact HSS.out.1 b hb (HSF.out.1.sub j h6 b h7)
            · omega
          have hGl := HSG.out.loc locGlo (fun _ h => h) (w' := w') (fun b hb => hSGb b hb) (by omega)
          have hFl := HL.out.loc locFun (w' := w') (fun b hb => by have := HSoU.out b hb; exact hto b (by omega) (by omega)) (by omega)
          refine ⟨.tuple #[.agg #[.slice p1 u.globals.length c1, .slice po (cnt (tableU u.funcs m) u.funcs.length) co], .agg #[.int .i64 0, .int .i64 0]], ?_, ⟨p1, c1, po, co, by rw [hlenD], fun b => S1 b ∨ So b, ⟨_, _, S1, So, rfl, hGl, ⟨?_, ?_⟩, ?_, fun _ h => .inl h, fun _ h => .inr h⟩, ?_⟩, ?_⟩
          · simp [results, Tryd.results13, go_sem, q0, q1, q2, q3]
          · rw [hlenD]
            have e1 : (doneU (tableU u.funcs m) u).funcs = renTo at_ xs (cnt (tableU u.funcs m) u.funcs.length) := by
              rw [← hxl, renTo_all, HAT.out, HXS.out]
              rfl
            rw [e1]
            exact hFl
          · rw [hlenD]
            have := cnt_le (tableU u.funcs m) u.funcs.length
            unfold reachBytes
            omega
          · intro b h6 h7
            rcases HSob.out b h7 with ⟨j, h8, h9⟩ | h8
            · exact HSS.out.1 b h6 (HSF.out.1.sub j h8 b h9)
            · have := HSG.out.sl.inb b h6
              omega
          · rintro b (h | h)
            · have := HSl.out b (HSS.out.2.1 b h); omega
            · have := (HSoU.out b h).1; omega
          · exact ⟨h1.trans hBF.os, h2.trans hBF.tape, h3.trans hBF.output, Nat.le_trans hBF.size h4, fun b hb => (h5 b (hnD b (by omega))).trans (hBF.block b hb)⟩
end Go.Proofs.YtdjamkinijhjoaaDoor
