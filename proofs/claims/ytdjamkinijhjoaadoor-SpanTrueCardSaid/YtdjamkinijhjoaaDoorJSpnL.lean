/-
  The contract of span.spans, of a function as it came in.
  Plain: the reference's table is what paths say; the contract of calls.Reach.
  The contract of ssa.Check.
  The contract of span.Of.
-/
import Derived.WalkKit
import Derived.WalkSpells
import Derived.WalkLawsBesides
import Derived.Test.YtdjamkinijhjoaaDoorSpnJ
import Derived.Laws.EntriesVeiled
import Derived.Deep.OwnRows
import Derived.Test.YtdjamkinijhjoaaDoorJDomA
import Derived.Test.YtdjamkinijhjoaaDoorJTruA
import Derived.Test.YtdjamkinijhjoaaDoorJOwnA
namespace Go.Proofs.YtdjamkinijhjoaaDoor
open Go.RowKit

theorem spans_any (f : FunL) (fp : Option Addr) (fc : Nat) (w : World) (hS : FunR' f) (hF : SliceAt w 6 (BlkR w) fp f.blocks) (hA : AllW w) :
  Calls Tryd.prog 22 #[.agg #[.string f.name, .int .i64 f.params, .int .i64 f.regs, .slice fp f.blocks.length fc]] w fun e w' => ∃ O, e = .returned (.slice (some ⟨O, 0, none⟩) f.regs.toNat f.regs.toNat) ∧ w.heap.size ≤ O ∧ w'.rowIs O 74 (f.regs.toNat * 3) (spF (spnF f)) ∧ Below w.heap.size w w' := by
 have h1 := hS.par
 obtain ⟨P, hP⟩ : ∃ P : Nat, f.params = P := ⟨f.params.toNat, by omega⟩
 obtain ⟨R, hR⟩ : ∃ R : Nat, f.regs = R := ⟨f.regs.toNat, by omega⟩
 have h := spans_aux f P R f.name fp fc w (hidI hP) (hidI hR) hS hF hA
 have e : f.regs.toNat = R := by omega
 rw [hP, e, hR]
 exact h
end Go.Proofs.YtdjamkinijhjoaaDoor
namespace Go.Proofs.YtdjamkinijhjoaaDoor
open Go.RowKit

theorem mainI_lt {xs : List FunL} {m : Nat} (h : mainI xs = some m) : m < xs.length := by
 unfold mainI at h
 exact List.mem_range.1 (List.mem_of_find?_eq_some h)

end Go.Proofs.YtdjamkinijhjoaaDoor
namespace Go.Proofs.YtdjamkinijhjoaaDoor
open Go.RowKit Go.Shelf

def ssaI (u : UniL) (i : Nat) : Int := match u.funcs[i]? with | some f => ssaE f | none => 0
def ssaU (u : UniL) : Int × Int := if (chk u).1 = 0 then (match firstAt u.funcs.length (ssaI u) with | some r => r | none => (0, 0)) else chk u
theorem ssaI_at {u : UniL} {k : Nat} (h : k < u.funcs.length) : ssaI u k = ssaE u.funcs[k] := by unfold ssaI; rw [List.getElem?_eq_getElem h]

set_option maxRecDepth 100000 in
set_option maxHeartbeats 4000000 in
theorem ssaCheck_any (u : UniL) (gp fp : Option Addr) (gc fc : Nat) (w : World) (hgl : u.globals.length * 48 ≤ 140737488351232) (hG : SliceAt w 3 (GloR w) gp u.globals) (hfl : u.funcs.length * 56 ≤ 140737488351232) (hF : SliceAt w 4 (FunR w) fp u.funcs) (hways : Ways w) :
  Calls Tryd.prog 10 #[.agg #[.slice gp u.globals.length gc, .slice fp u.funcs.length fc]] w fun e w' => e = .returned (.agg #[.int .i64 (ssaU u).1, .int .i64 (ssaU u).2]) ∧ Below w.heap.size w w' := by
 have HG := hidI hG
 have HF := hidI hF
 have HW := hidI hways
 have hq : ∀ w, (binOp .neq 28 (.agg #[.int .i64 (chk u).1, .int .i64 (chk u).2]) (.agg #[.int .i64 0, .int .i64 0])).run Tryd.prog w = .ok (.bool (!((chk u).1 == 0 && (chk u).2 == 0))) w := fun w => by rw [run_neFault]
 clear hG hF hways
 by_cases hc : (chk u).1 = 0
 ·obtain ⟨h00, hok⟩ := chk_ok hc
  have h2 : (chk u).2 = 0 := by rw [h00]
  have hSu : ssaU u = (match firstAt u.funcs.length (ssaI u) with | some r => r | none => (0, 0)) := by unfold ssaU; rw [if_pos hc]
  have hq' : ∀ w, (binOp .neq 28 (.agg #[.int .i64 (chk u).1, .int .i64 (chk u).2]) (.agg #[.int .i64 0, .int .i64 0])).run Tryd.prog w = .ok (.bool false) w := fun w => by rw [run_neFault, hc, h2]; rfl
  have hnf := hok.nf
  have HOk := hidI hok
  have HSu := hidI hSu
  clear h00 hok hSu hc h2 hq
  go_enter Tryd.func10, Tryd.ntmps10
  go_wp2_with fail
  refine (check_any u _ _ _ _ _ hgl (glosMono HG.out (by repeat (first | (with_reducible first | exact bR _ _ | exact bH ‹_› | refine bD ?_ | refine bN ?_ _ | refine bS ?_ ?_ _ | refine bA ?_ ?_ _ | refine bT hb3 ?_ ?_ | refine bT hb5 ?_ ?_ | refine bT hb4 ?_ ?_) | omega | (simp; omega) | simp))) hfl (funsMono HF.out (by repeat (first | (with_reducible first | exact bR _ _ | exact bH ‹_› | refine bD ?_ | refine bN ?_ _ | refine bS ?_ ?_ _ | refine bA ?_ ?_ _ | refine bT hb3 ?_ ?_ | refine bT hb5 ?_ ?_ | refine bT hb4 ?_ ?_) | omega | (simp; omega) | simp))) (HW.out.below (by repeat (first | (with_reducible first | exact bR _ _ | exact bH ‹_› | refine bD ?_ | refine bN ?_ _ | refine bS ?_ ?_ _ | refine bA ?_ ?_ _ | refine bT hb3 ?_ ?_ | refine bT hb5 ?_ ?_ | refine bT hb4 ?_ ?_) | omega | (simp; omega) | simp)))).mono ?_
  rintro e w1 ⟨rfl, hb1⟩
  have HB1 : Hid (Below w.heap.size w w1) := Below.trans (by repeat (first | (with_reducible first | exact bR _ _ | exact bH ‹_› | refine bD ?_ | refine bN ?_ _ | refine bS ?_ ?_ _ | refine bA ?_ ?_ _ | refine bT hb3 ?_ ?_ | refine bT hb5 ?_ ?_ | refine bT hb4 ?_ ?_) | omega | (simp; omega) | simp)) (hb1.mono (by simp; omega))
  have hR := heap_below hb1 (k := w.heap.size + 1) (by simp) (heap_at (w := w.alloc (.cells #[.slice gp u.globals.length gc, .slice fp u.funcs.length fc] 25)) (o := .cells #[.int .i64 0, .int .i64 0] 28) (by simp))
  have hU := heap_below hb1 (k := w.heap.size) (by simp; omega) (heap_step (heap_at (w := w) (o := .cells #[.slice gp u.globals.length gc, .slice fp u.funcs.length fc] 25) rfl))
  have u1 : w1.cell? ⟨w.heap.size, 1, none⟩ = some (.slice fp u.funcs.length fc) := (blk hU).1 1
  have zu := ltHeap hU
  have HR := hidI hR
  have z1 := ltHeap hR
  clear hb1 hR hU
  go_wp2_with fail
  clear u1 hq'
  obtain ⟨W2, hW2⟩ : ∃ W2, W2 = w1.alloc (.cells #[.int .i64 (chk u).1, .int .i64 (chk u).2] 28) := ⟨_, rfl⟩
  rw [← hW2]
  have HB2 : Hid (Below w.heap.size w W2) := hidI (by rw [hW2]; exact HB1.out.alloc HB1.out.size _)
  have HR2 : Hid (W2.heap[w.heap.size + 1]? = some (.cells #[.int .i64 0, .int .i64 0] 28 (0, 0))) := hidI (by rw [hW2]; exact heap_step HR.out)
  clear hW2 HR
  go_loopg [16] u.funcs.length (fun q s16 wr => ∃ k : Nat, k ≤ u.funcs.length ∧ q = u.funcs.length - k ∧ s16 = .int .i64 k ∧ (∀ i, i < k → ssaI u i = 0) ∧ Below W2.heap.size W2 wr)
  case atStart => exact ⟨0, by omega, rfl, rfl, (fun i h => by omega), Below.refl _ _⟩
  case round =>
   obtain ⟨k, hk, rfl, rfl, hz, hb⟩ := hrel
   have HZ := hidI hz
   have HB := hidI hb
   have hBw : Below w.heap.size w wr := HB2.out.trans (hb.mono HB2.out.size)
   have HBw := hidI hBw
   have hRr := (hb.block _ (ltHeap HR2.out)).trans HR2.out
   have HRr := hidI hRr
   obtain ⟨hcc, hcf⟩ := blk hRr
   have zr := ltHeap hRr
   clear hz hb hBw hRr
   by_cases hlt : k < u.funcs.length
   ·obtain ⟨b2, o2, q, c, hp, e0, e1, e2, e3, _, _, _, hbl, hbs⟩ := funGet HF.out HBw.out hlt
    subst hp
    have hb2 := lt_of_cell e0
    have hR' := HOk.out.funR hlt
    have hI := ssaI_at hlt
    obtain ⟨W3, hW3⟩ : ∃ W3, W3 = wr.alloc (.cells #[.string u.funcs[k].name, .int .i64 u.funcs[k].params, .int .i64 u.funcs[k].regs, .slice q u.funcs[k].blocks.length c] 37) := ⟨_, rfl⟩
    have hbw3 : Below wr.heap.size wr W3 := by rw [hW3]; repeat (first | (with_reducible first | exact bR _ _ | exact bH ‹_› | refine bD ?_ | refine bN ?_ _ | refine bS ?_ ?_ _ | refine bA ?_ ?_ _ | refine bT hb3 ?_ ?_ | refine bT hb5 ?_ ?_ | refine bT hb4 ?_ ?_) | omega | (simp; omega) | simp)
    have hCk := checkOf_any u.funcs[k] q c W3 hR' (blksMono hbs hbw3)
    rw [← hI] at hCk
    rw [hW3] at hCk
    generalize u.funcs[k] = f at *
    have HCk := hidI hCk
    have HI := hidI hI
    clear hCk hI hbw3 hbs hR' hW3
    go_wp2_with fail
    refine HCk.out.mono ?_
    rintro e w4 ⟨rfl, hb4⟩
    have hb4' : Below wr.heap.size wr w4 := Below.trans (by repeat (first | (with_reducible first | exact bR _ _ | exact bH ‹_› | refine bD ?_ | refine bN ?_ _ | refine bS ?_ ?_ _ | refine bA ?_ ?_ _ | refine bT hb3 ?_ ?_ | refine bT hb5 ?_ ?_ | refine bT hb4 ?_ ?_) | omega | (simp; omega) | simp)) (hb4.mono (by simp))
    have hR4 := (hb4'.block _ (ltHeap HRr.out)).trans HRr.out
    obtain ⟨hcc4, hcf4⟩ := blk hR4
    have zr4 := ltHeap hR4
    have HB4 := hidI (HBw.out.trans (hb4'.mono HBw.out.size))
    have HB42 := hidI (HB.out.trans (hb4'.mono HB.out.size))
    clear hb4 hb4' hR4
    obtain ⟨r, hr⟩ : ∃ r, r = ssaI u k := ⟨_, rfl⟩
    rw [← hr]
    have HRk := hidI hr
    clear hr
    by_cases h0 : r = 0
    ·subst h0
     go_wp2_with fail
     go_roundg (u.funcs.length - (k + 1))
     case measure => omega
     case rel => exact ⟨k + 1, by omega, rfl, by go_num, (fun i hi => by
      rcases Nat.lt_or_ge i k with g | g
      ·exact HZ.out i g
      ·obtain rfl : i = k := by omega
       exact HRk.out.symm), HB42.out⟩
    ·have HU := hidI (show ssaU u = (r, (k : Int)) from by
      rw [HSu.out, firstAt_hit hlt HZ.out (by rw [← HRk.out]; exact h0), ← HRk.out])
     go_wp2_with (go_at_call 24; refine (cfault_any _ _ _).mono ?_; rintro e w5 ⟨rfl, rfl⟩)
     refine bodyPost_ret (v := .agg #[.int .i64 (ssaU u).1, .int .i64 (ssaU u).2]) ?_ rfl ⟨rfl, ?_⟩
     ·rw [HU.out]
      simp [results, Tryd.results10, go_sem, *]
     ·have := HB4.out.size
      repeat (first | with_reducible exact HB4.out | with_reducible refine Below.setCell ?_ ?_ _ | with_reducible refine Below.alloc ?_ ?_ _ | omega | (simp; omega) | simp)
   ·obtain rfl : k = u.funcs.length := by omega
    have HU := hidI (show ssaU u = (0, 0) from by rw [HSu.out, firstAt_none HZ.out])
    go_wp2_with fail
    refine bodyPost_ret (v := .agg #[.int .i64 (ssaU u).1, .int .i64 (ssaU u).2]) ?_ rfl ⟨rfl, ?_⟩
    ·rw [HU.out]
     simp [results, Tryd.results10, go_sem, *]
    ·have := HBw.out.size
     repeat (first | with_reducible exact HBw.out | with_reducible refine Below.setCell ?_ ?_ _ | with_reducible refine Below.alloc ?_ ?_ _ | omega | (simp; omega) | simp)
 ·have hS : ssaU u = chk u := by unfold ssaU; rw [if_neg hc]
  have hne : ((chk u).1 == 0 && (chk u).2 == 0) = false := by simp [hc]
  rw [hne] at hq
  have HS := hidI hS
  rw [hS]
  clear hS hne hc
  go_enter Tryd.func10, Tryd.ntmps10
  go_wp2_with fail
  refine (check_any u _ _ _ _ _ hgl (glosMono HG.out (by repeat (first | (with_reducible first | exact bR _ _ | exact bH ‹_› | refine bD ?_ | refine bN ?_ _ | refine bS ?_ ?_ _ | refine bA ?_ ?_ _ | refine bT hb3 ?_ ?_ | refine bT hb5 ?_ ?_ | refine bT hb4 ?_ ?_) | omega | (simp; omega) | simp))) hfl (funsMono HF.out (by repeat (first | (with_reducible first | exact bR _ _ | exact bH ‹_› | refine bD ?_ | refine bN ?_ _ | refine bS ?_ ?_ _ | refine bA ?_ ?_ _ | refine bT hb3 ?_ ?_ | refine bT hb5 ?_ ?_ | refine bT hb4 ?_ ?_) | omega | (simp; omega) | simp))) (HW.out.below (by repeat (first | (with_reducible first | exact bR _ _ | exact bH ‹_› | refine bD ?_ | refine bN ?_ _ | refine bS ?_ ?_ _ | refine bA ?_ ?_ _ | refine bT hb3 ?_ ?_ | refine bT hb5 ?_ ?_ | refine bT hb4 ?_ ?_) | omega | (simp; omega) | simp)))).mono ?_
  rintro e w1 ⟨rfl, hb1⟩
  have HB1 : Hid (Below w.heap.size w w1) := Below.trans (by repeat (first | (with_reducible first | exact bR _ _ | exact bH ‹_› | refine bD ?_ | refine bN ?_ _ | refine bS ?_ ?_ _ | refine bA ?_ ?_ _ | refine bT hb3 ?_ ?_ | refine bT hb5 ?_ ?_ | refine bT hb4 ?_ ?_) | omega | (simp; omega) | simp)) (hb1.mono (by simp; omega))
  have hR := heap_below hb1 (k := w.heap.size + 1) (by simp) (heap_at (w := w.alloc (.cells #[.slice gp u.globals.length gc, .slice fp u.funcs.length fc] 25)) (o := .cells #[.int .i64 0, .int .i64 0] 28) (by simp))
  obtain ⟨hcc, hcf⟩ := blk hR
  have z1 := ltHeap hR
  have z11 : w.heap.size + 1 < w1.heap.size + 1 := by omega
  clear hb1
  go_wp2_with fail
  refine bodyPost_ret (v := .agg #[.int .i64 (chk u).1, .int .i64 (chk u).2]) ?_ rfl ⟨rfl, ?_⟩
  ·simp [results, Tryd.results10, go_sem, *]
  ·repeat (first | (with_reducible first | exact bR _ _ | exact bH ‹_› | refine bD ?_ | refine bN ?_ _ | refine bS ?_ ?_ _ | refine bA ?_ ?_ _ | refine bT hb3 ?_ ?_ | refine bT hb5 ?_ ?_ | refine bT hb4 ?_ ?_) | omega | (simp; omega) | simp)
end Go.Proofs.YtdjamkinijhjoaaDoor
namespace Go.Proofs.YtdjamkinijhjoaaDoor
open Go.RowKit Go.Shelf

def okU (u : UniL) : Bool := (ssaU u).1 == 0 && (ssaU u).2 == 0
set_option maxRecDepth 100000 in
set_option maxHeartbeats 4000000 in
theorem spanOf_bad (u : UniL) (k : Int) (gp fp : Option Addr) (gc fc : Nat) (w : World) (hgl : u.globals.length * 48 ≤ 140737488351232) (hG : SliceAt w 3 (GloR w) gp u.globals) (hfl : u.funcs.length * 56 ≤ 140737488351232) (hF : SliceAt w 4 (FunR w) fp u.funcs) (hways : Ways w) (hbad : okU u = false) :
  Calls Tryd.prog 9 #[.agg #[.slice gp u.globals.length gc, .slice fp u.funcs.length fc], .int .i64 k] w fun e w' => e = .returned (.tuple #[.slice none 0 0, .agg #[.int .i64 (ssaU u).1, .int .i64 (ssaU u).2]]) ∧ Below w.heap.size w w' := by
 have HG := hidI hG
 have HF := hidI hF
 have HW := hidI hways
 have hq : ∀ w, (binOp .neq 28 (.agg #[.int .i64 (ssaU u).1, .int .i64 (ssaU u).2]) (.agg #[.int .i64 0, .int .i64 0])).run Tryd.prog w = .ok (.bool true) w := fun w => by
  rw [run_neFault]
  unfold okU at hbad
  rw [hbad]; rfl
 clear hG hF hways hbad
 go_enter Tryd.func9, Tryd.ntmps9
 go_wp2_with fail
 refine (ssaCheck_any u _ _ _ _ _ hgl (glosMono HG.out (by repeat (first | (with_reducible first | exact bR _ _ | exact bH ‹_› | refine bD ?_ | refine bN ?_ _ | refine bS ?_ ?_ _ | refine bA ?_ ?_ _ | refine bT hb3 ?_ ?_ | refine bT hb5 ?_ ?_ | refine bT hb4 ?_ ?_) | omega | (simp; omega) | simp))) hfl (funsMono HF.out (by repeat (first | (with_reducible first | exact bR _ _ | exact bH ‹_› | refine bD ?_ | refine bN ?_ _ | refine bS ?_ ?_ _ | refine bA ?_ ?_ _ | refine bT hb3 ?_ ?_ | refine bT hb5 ?_ ?_ | refine bT hb4 ?_ ?_) | omega | (simp; omega) | simp))) (HW.out.below (by repeat (first | (with_reducible first | exact bR _ _ | exact bH ‹_› | refine bD ?_ | refine bN ?_ _ | refine bS ?_ ?_ _ | refine bA ?_ ?_ _ | refine bT hb3 ?_ ?_ | refine bT hb5 ?_ ?_ | refine bT hb4 ?_ ?_) | omega | (simp; omega) | simp)))).mono ?_
 rintro e w1 ⟨rfl, hb1⟩
 have HB1 : Hid (Below w.heap.size w w1) := Below.trans (by repeat (first | (with_reducible first | exact bR _ _ | exact bH ‹_› | refine bD ?_ | refine bN ?_ _ | refine bS ?_ ?_ _ | refine bA ?_ ?_ _ | refine bT hb3 ?_ ?_ | refine bT hb5 ?_ ?_ | refine bT hb4 ?_ ?_) | omega | (simp; omega) | simp)) (hb1.mono (by simp; omega))
 have hR := heap_below hb1 (k := w.heap.size + 1) (by simp) (heap_at (w := w.alloc (.cells #[.slice gp u.globals.length gc, .slice fp u.funcs.length fc] 25)) (o := .cells #[.int .i64 0, .int .i64 0] 28) (by simp))
 obtain ⟨hcc, hcf⟩ := blk hR
 have z1 := ltHeap hR
 have c0 := hcc 0
 have c1 := hcc 1
 clear hb1 hcc
 go_wp2_with fail
 obtain ⟨cc, hcc⟩ : ∃ cc, cc = (ssaU u).1 := ⟨_, rfl⟩
 obtain ⟨ci, hci⟩ : ∃ ci, ci = (ssaU u).2 := ⟨_, rfl⟩
 obtain ⟨W8, hW8⟩ : ∃ W8, W8 = w1.alloc (.cells #[.int .i64 (ssaU u).1, .int .i64 (ssaU u).2] 28) := ⟨_, rfl⟩
 rw [← hW8]
 have hb8 : Below w1.heap.size w1 W8 := by rw [hW8]; repeat (first | (with_reducible first | exact bR _ _ | exact bH ‹_› | refine bD ?_ | refine bN ?_ _ | refine bS ?_ ?_ _ | refine bA ?_ ?_ _ | refine bT hb3 ?_ ?_ | refine bT hb5 ?_ ?_ | refine bT hb4 ?_ ?_) | omega | (simp; omega) | simp)
 have HE : Hid (W8.heap[w1.heap.size]? = some (.cells #[.int .i64 (ssaU u).1, .int .i64 (ssaU u).2] 28 (0, 0))) := hidI (by rw [hW8]; exact heap_here w1 _)
 have HR8 := hidI ((hb8.block _ z1).trans hR)
 have HB8 := hidI (HB1.out.trans (hb8.mono HB1.out.size))
 clear hW8 hb8 hcf c0 c1 z1 hR hcc hci cc ci
 refine wp_region_calm (S := fun w' => Below W8.heap.size W8 w') (by kernel_rfl) 2 ?_
 refine takeZ 0 15 (.agg #[.int .i64 (ssaU u).1, .int .i64 (ssaU u).2]) rfl rfl (by kernel_rfl) (by kernel_rfl) (by kernel_rfl) (by kernel_rfl) (fun _ _ _ h => h) (Or.inl ⟨by rfl, fun w' h => ?_⟩) (Below.refl _ _).drew ?_
 ·have h1 := (h.block _ (ltHeap HE.out)).trans HE.out
  have e0 := (blk h1).1 0
  have e1 := (blk h1).1 1
  simp only [List.getElem?_toArray, List.getElem?_cons_zero, List.getElem?_cons_succ] at e0 e1
  go_simp
 refine takeZ 1 4 (.slice none 0 0) rfl rfl (by kernel_rfl) (by kernel_rfl) (by kernel_rfl) (by kernel_rfl) (fun _ _ _ h => h) (Or.inl ⟨by rfl, fun w' h => ?_⟩) (Below.refl _ _).drew ?_
 ·go_simp
 have r8 := HR8.out
 have z8 := ltHeap HR8.out
 have c0 := (blk HR8.out).1 0
 have c1 := (blk HR8.out).1 1
 have cf := (blk HR8.out).2
 simp only [List.getElem?_toArray, List.getElem?_cons_zero, List.getElem?_cons_succ] at c0 c1
 clear r8
 obtain ⟨W9, hW9⟩ : ∃ W9, W9 = (W8.drew.setCell ⟨w.heap.size + 1, 0, none⟩ (.int .i64 (ssaU u).1)).setCell ⟨w.heap.size + 1, 1, none⟩ (.int .i64 (ssaU u).2) := ⟨_, rfl⟩
 refine stepZ_1 (i := 2) (by kernel_rfl) (stepZ_skipNo W9 rfl rfl rfl (by rw [hW9]; go_simp) (fun h => absurd rfl h) (wpAnyZ_done (by kernel_rfl) ?_ _))
 have hZ9 : W9.heap[w.heap.size + 1]? = some (.cells #[.int .i64 (ssaU u).1, .int .i64 (ssaU u).2] 28 (0, 0)) := by
  rw [hW9, row_set (row_set (show W8.drew.heap[w.heap.size + 1]? = _ from HR8.out) 0 _) 1 _]
  rfl
 have hb9 : Below w.heap.size w W9 := by
  rw [hW9]
  exact ((HB8.out.drew).setCell (by show w.heap.size ≤ w.heap.size + 1; omega) _).setCell (by show w.heap.size ≤ w.heap.size + 1; omega) _
 have e0 : W9.cell? ⟨w.heap.size + 1, 0, none⟩ = some (.int .i64 (ssaU u).1) := (blk hZ9).1 0
 have e1 : W9.cell? ⟨w.heap.size + 1, 1, none⟩ = some (.int .i64 (ssaU u).2) := (blk hZ9).1 1
 have HB9 := hidI hb9
 clear hW9 hZ9 hb9 c0 c1 cf z8 HB8 HR8 HE
 simp only [calm, Exit.then]
 go_simp
 go_wp2_with fail
 refine bodyPost_ret (v := .tuple #[.slice none 0 0, .agg #[.int .i64 (ssaU u).1, .int .i64 (ssaU u).2]]) ?_ rfl ⟨rfl, HB9.out⟩
 simp [results, Tryd.results9, go_sem, e0, e1]
theorem spanOf_range (u : UniL) (k : Int) (gp fp : Option Addr) (gc fc : Nat) (w : World) (hgl : u.globals.length * 48 ≤ 140737488351232) (hG : SliceAt w 3 (GloR w) gp u.globals) (hfl : u.funcs.length * 56 ≤ 140737488351232) (hF : SliceAt w 4 (FunR w) fp u.funcs) (hways : Ways w) (hok : okU u = true) (hk : k < 0 ∨ (u.funcs.length : Int) ≤ k) :
  Calls Tryd.prog 9 #[.agg #[.slice gp u.globals.length gc, .slice fp u.funcs.length fc], .int .i64 k] w fun e w' => e = .returned (.tuple #[.slice none 0 0, .agg #[.int .i64 3, .int .i64 (-1)]]) ∧ Below w.heap.size w w' := by
 have HG := hidI hG
 have HF := hidI hF
 have HW := hidI hways
 have hq : ∀ w, (binOp .neq 28 (.agg #[.int .i64 (ssaU u).1, .int .i64 (ssaU u).2]) (.agg #[.int .i64 0, .int .i64 0])).run Tryd.prog w = .ok (.bool false) w := fun w => by
  rw [run_neFault]
  unfold okU at hok
  rw [hok]; rfl
 clear hG hF hways hok
 go_enter Tryd.func9, Tryd.ntmps9
 go_wp2_with fail
 refine (ssaCheck_any u _ _ _ _ _ hgl (glosMono HG.out (by repeat (first | (with_reducible first | exact bR _ _ | exact bH ‹_› | refine bD ?_ | refine bN ?_ _ | refine bS ?_ ?_ _ | refine bA ?_ ?_ _ | refine bT hb3 ?_ ?_ | refine bT hb5 ?_ ?_ | refine bT hb4 ?_ ?_) | omega | (simp; omega) | simp))) hfl (funsMono HF.out (by repeat (first | (with_reducible first | exact bR _ _ | exact bH ‹_› | refine bD ?_ | refine bN ?_ _ | refine bS ?_ ?_ _ | refine bA ?_ ?_ _ | refine bT hb3 ?_ ?_ | refine bT hb5 ?_ ?_ | refine bT hb4 ?_ ?_) | omega | (simp; omega) | simp))) (HW.out.below (by repeat (first | (with_reducible first | exact bR _ _ | exact bH ‹_› | refine bD ?_ | refine bN ?_ _ | refine bS ?_ ?_ _ | refine bA ?_ ?_ _ | refine bT hb3 ?_ ?_ | refine bT hb5 ?_ ?_ | refine bT hb4 ?_ ?_) | omega | (simp; omega) | simp)))).mono ?_
 rintro e w1 ⟨rfl, hb1⟩
 have HB1 : Hid (Below w.heap.size w w1) := Below.trans (by repeat (first | (with_reducible first | exact bR _ _ | exact bH ‹_› | refine bD ?_ | refine bN ?_ _ | refine bS ?_ ?_ _ | refine bA ?_ ?_ _ | refine bT hb3 ?_ ?_ | refine bT hb5 ?_ ?_ | refine bT hb4 ?_ ?_) | omega | (simp; omega) | simp)) (hb1.mono (by simp; omega))
 have hR := heap_below hb1 (k := w.heap.size + 1) (by simp) (heap_at (w := w.alloc (.cells #[.slice gp u.globals.length gc, .slice fp u.funcs.length fc] 25)) (o := .cells #[.int .i64 0, .int .i64 0] 28) (by simp))
 have hU := heap_below hb1 (k := w.heap.size) (by simp; omega) (heap_step (heap_at (w := w) (o := .cells #[.slice gp u.globals.length gc, .slice fp u.funcs.length fc] 25) rfl))
 have u1 : w1.cell? ⟨w.heap.size, 1, none⟩ = some (.slice fp u.funcs.length fc) := (blk hU).1 1
 have zu := ltHeap hU
 have c0 := (blk hR).1 0
 have c1 := (blk hR).1 1
 have cf := (blk hR).2
 have z1 := ltHeap hR
 simp only [List.getElem?_toArray, List.getElem?_cons_zero, List.getElem?_cons_succ] at c0 c1
 clear hb1 hR hU
 rcases hk with hk | hk
 all_goals
  go_wp2_with fail
  refine bodyPost_ret (v := .tuple #[.slice none 0 0, .agg #[.int .i64 3, .int .i64 (-1)]]) ?_ rfl ⟨rfl, ?_⟩
  ·simp [results, Tryd.results9, go_sem, *]
  ·have := HB1.out.size
   repeat (first | with_reducible exact HB1.out | with_reducible refine Below.setCell ?_ ?_ _ | with_reducible refine Below.alloc ?_ ?_ _ | omega | (simp; omega) | simp)
theorem okU_chk {u : UniL} (h : okU u = true) : ChkOk u := by
 by_cases hc : (chk u).1 = 0
 ·exact (chk_ok hc).2
 ·exfalso
  unfold okU at h
  rw [show ssaU u = chk u from by unfold ssaU; rw [if_neg hc]] at h
  simp [hc] at h
def pairS (f : FunL) (r : Nat) : Int × Int := ((spnF f r).lo, (spnF f r).hi)
def rngL (f : FunL) : List (Int × Int) := (List.range f.regs.toNat).map (pairS f)
theorem infoPair : (Tryd.prog.info? 38).map (fun i => (i.zero, i.size, i.bytes)) = some (some (.agg #[.int .i64 0, .int .i64 0]), 2, 16) := by kernel_rfl
def PairO : ElemO (Int × Int) := fun _ cs x S => cs = [.int .i64 x.1, .int .i64 x.2] ∧ ∀ g, ¬ S g
theorem locPair : LocO PairO := fun _ _ _ _ _ h _ _ => h
set_option maxRecDepth 100000 in
set_option maxHeartbeats 4000000 in
theorem spanOf_ok (u : UniL) (k : Nat) (gp fp : Option Addr) (gc fc : Nat) (w : World) (hgl : u.globals.length * 48 ≤ 140737488351232) (hG : SliceAt w 3 (GloR w) gp u.globals) (hfl : u.funcs.length * 56 ≤ 140737488351232) (hF : SliceAt w 4 (FunR w) fp u.funcs) (hways : Ways w) (hA : AllW w) (hok : okU u = true) (hk : k < u.funcs.length) :
  Calls Tryd.prog 9 #[.agg #[.slice gp u.globals.length gc, .slice fp u.funcs.length fc], .int .i64 k] w fun e w' => ∃ v S, e = .returned (.tuple #[v, .agg #[.int .i64 0, .int .i64 0]]) ∧ SlO 38 2 PairO w' v (rngL u.funcs[k]) S ∧ (∀ g, S g → w.heap.size ≤ g) ∧ Below w.heap.size w w' := by
 have hR' := (okU_chk hok).funR hk
 have HR' := hidI hR'
 have HG := hidI hG
 have HF := hidI hF
 have HW := hidI hways
 have HA := hidI hA
 have hq : ∀ w, (binOp .neq 28 (.agg #[.int .i64 (ssaU u).1, .int .i64 (ssaU u).2]) (.agg #[.int .i64 0, .int .i64 0])).run Tryd.prog w = .ok (.bool false) w := fun w => by
  rw [run_neFault]
  unfold okU at hok
  rw [hok]; rfl
 clear hG hF hways hok hA hR'
 go_enter Tryd.func9, Tryd.ntmps9
 go_wp2_with fail
 refine (ssaCheck_any u _ _ _ _ _ hgl (glosMono HG.out (by repeat (first | (with_reducible first | exact bR _ _ | exact bH ‹_› | refine bD ?_ | refine bN ?_ _ | refine bS ?_ ?_ _ | refine bA ?_ ?_ _ | refine bT hb3 ?_ ?_ | refine bT hb5 ?_ ?_ | refine bT hb4 ?_ ?_) | omega | (simp; omega) | simp))) hfl (funsMono HF.out (by repeat (first | (with_reducible first | exact bR _ _ | exact bH ‹_› | refine bD ?_ | refine bN ?_ _ | refine bS ?_ ?_ _ | refine bA ?_ ?_ _ | refine bT hb3 ?_ ?_ | refine bT hb5 ?_ ?_ | refine bT hb4 ?_ ?_) | omega | (simp; omega) | simp))) (HW.out.below (by repeat (first | (with_reducible first | exact bR _ _ | exact bH ‹_› | refine bD ?_ | refine bN ?_ _ | refine bS ?_ ?_ _ | refine bA ?_ ?_ _ | refine bT hb3 ?_ ?_ | refine bT hb5 ?_ ?_ | refine bT hb4 ?_ ?_) | omega | (simp; omega) | simp)))).mono ?_
 rintro e w1 ⟨rfl, hb1⟩
 have HB1 : Hid (Below w.heap.size w w1) := Below.trans (by repeat (first | (with_reducible first | exact bR _ _ | exact bH ‹_› | refine bD ?_ | refine bN ?_ _ | refine bS ?_ ?_ _ | refine bA ?_ ?_ _ | refine bT hb3 ?_ ?_ | refine bT hb5 ?_ ?_ | refine bT hb4 ?_ ?_) | omega | (simp; omega) | simp)) (hb1.mono (by simp; omega))
 have hR := heap_below hb1 (k := w.heap.size + 1) (by simp) (heap_at (w := w.alloc (.cells #[.slice gp u.globals.length gc, .slice fp u.funcs.length fc] 25)) (o := .cells #[.int .i64 0, .int .i64 0] 28) (by simp))
 have hU := heap_below hb1 (k := w.heap.size) (by simp; omega) (heap_step (heap_at (w := w) (o := .cells #[.slice gp u.globals.length gc, .slice fp u.funcs.length fc] 25) rfl))
 have u1 : w1.cell? ⟨w.heap.size, 1, none⟩ = some (.slice fp u.funcs.length fc) := (blk hU).1 1
 have zu := ltHeap hU
 have HRr := hidI hR
 have z1 := ltHeap hR
 clear hb1 hR hU
 obtain ⟨b2, o2, q, c, hp, e0, e1, e2, e3, _, _, _, hbl, hbs⟩ := funGet HF.out HB1.out hk
 subst hp
 have hb2 := lt_of_cell e0
 have hbw := (funGet HF.out (Below.refl _ _) hk)
 have HBs := hidI hbs
 clear hbs hbw
 generalize hfe : u.funcs[k] = f at *
 have HFe := hidI hfe
 clear hfe
 go_wp2_with fail
 obtain ⟨W4, hW4⟩ : ∃ W4, W4 = w1.alloc (.cells #[.int .i64 (ssaU u).1, .int .i64 (ssaU u).2] 28) := ⟨_, rfl⟩
 rw [← hW4]
 have hb4 : Below w1.heap.size w1 W4 := by rw [hW4]; repeat (first | (with_reducible first | exact bR _ _ | exact bH ‹_› | refine bD ?_ | refine bN ?_ _ | refine bS ?_ ?_ _ | refine bA ?_ ?_ _ | refine bT hb3 ?_ ?_ | refine bT hb5 ?_ ?_ | refine bT hb4 ?_ ?_) | omega | (simp; omega) | simp)
 have HB4 := hidI (HB1.out.trans (hb4.mono HB1.out.size))
 have HR4 := hidI ((hb4.block _ z1).trans HRr.out)
 have hR1 := HR'.out.par
 have hR2 := HR'.out.reg
 obtain ⟨R, hRn⟩ : ∃ R : Nat, f.regs.toNat = R := ⟨_, rfl⟩
 have hsp := spans_any f q c W4 HR'.out (blksMono HBs.out hb4) (HA.out.below HB4.out)
 have hR100 : R ≤ 100 := by omega
 have HRn := hidI hRn
 rw [hRn] at hsp
 clear hW4 hb4 HRr u1 zu e0 e1 e2 e3 hb2 hRn
 refine hsp.mono ?_
 rintro e w5 ⟨O, rfl, hO, hrow, hb5⟩
 have HB5 := hidI (HB4.out.trans (hb5.mono HB4.out.size))
 have HR5 := hidI ((hb5.block _ (ltHeap HR4.out)).trans HR4.out)
 have HRow := hidI hrow
 clear hsp hrow hb5 HR4
 go_wp2_with fail
 obtain ⟨iP, k1, k2, k3, k4⟩ := info_parts infoPair
 go_loopg [33, 7] R (fun q s33 s7 wr => ∃ (r : Nat) (S : Blks), r ≤ R ∧ q = R - r ∧ s33 = .int .i64 r ∧ SlO 38 2 PairO wr s7 ((List.range r).map (pairS f)) S ∧ (∀ g, S g → w5.heap.size ≤ g) ∧ Below w5.heap.size w5 wr)
 case atStart => exact ⟨0, fun _ => False, by omega, by omega, rfl, SlO.nil _ _ _ _ (fun _ h => h.elim), fun _ h => h.elim, Below.refl _ _⟩
 case round =>
  obtain ⟨r, S, hr, rfl, rfl, hO2, hL, hb⟩ := hrel
  obtain ⟨p, c2, rfl, hnil, hcap⟩ := hO2.val
  rw [List.length_map, List.length_range] at hnil hcap
  have HO2 := hidI hO2
  have HL := hidI hL
  have HB := hidI hb
  have hRr := (hb.block _ (ltHeap HR5.out)).trans HR5.out
  have HRr := hidI hRr
  clear hO2 hL hb hRr hnil
  rw [List.length_map, List.length_range] at *
  by_cases hlt : r < R
  ·have hrow := HRow.out.of_block (HB.out.block O HRow.out.lt)
   have c0 := hrow.cell (i := r * 3) (by omega)
   have c1 := hrow.cell (i := r * 3 + 1) (by omega)
   have c3 := hrow.cell (i := r * 3 + 2) (by omega)
   have zO := hrow.lt
   rw [spF_0] at c0
   rw [spF_1] at c1
   rw [spF_2] at c3
   clear hrow
   have hb3 : Below wr.heap.size wr ((wr.alloc (.cells #[.int .i64 (spnF f r).lo, .int .i64 (spnF f r).hi, .bool (spnF f r).has] 74)).alloc (.cells #[.int .i64 (spnF f r).lo, .int .i64 (spnF f r).hi] 38)) := by repeat (first | (with_reducible first | exact bR _ _ | exact bH ‹_› | refine bD ?_ | refine bN ?_ _ | refine bS ?_ ?_ _ | refine bA ?_ ?_ _ | refine bT hb3 ?_ ?_ | refine bT hb5 ?_ ?_ | refine bT hb4 ?_ ?_) | omega | (simp; omega) | simp)
   have HO3 := hidI (HO2.out.below locPair hb3)
   clear hb3
   go_wp2_with (at_builtin; refine wpList_append_slo _ rfl _ _ 26 rfl 38 iP _ 2 16 Tryd.underlying26 k1 k2 k3 k4 rfl (by decide) locPair rfl HO3.out ⟨wr.heap.size + 1, 0, none⟩ 1 [.int .i64 (spnF f r).lo, .int .i64 (spnF f r).hi] (pairS f r) rfl rfl ?hn ?ho (T := fun _ => False) ⟨rfl, fun _ h => h⟩ ?ha ?ht ?hm ?hb ?_)
   case hn => exact cells_new _ _ _ (by simp)
   case ho => intro u hu; simp only [List.mem_cons, List.not_mem_nil, or_false] at hu; rcases hu with rfl | rfl <;> rfl
   case ha => exact fun k h1 h2 => h2
   case ht => exact fun k h => h.elim
   case hm => unfold maxLen; simp; omega
   case hb => simp; omega
   intro v2 w8 ⟨S', hO8, hsub, hK8⟩
   have HO8 := hidI hO8
   have hb8 : Below w5.heap.size w5 w8 := (HB.out.trans ((show Below wr.heap.size wr ((wr.alloc (.cells #[.int .i64 (spnF f r).lo, .int .i64 (spnF f r).hi, .bool (spnF f r).has] 74)).alloc (.cells #[.int .i64 (spnF f r).lo, .int .i64 (spnF f r).hi] 38)) by repeat (first | (with_reducible first | exact bR _ _ | exact bH ‹_› | refine bD ?_ | refine bN ?_ _ | refine bS ?_ ?_ _ | refine bA ?_ ?_ _ | refine bT hb3 ?_ ?_ | refine bT hb5 ?_ ?_ | refine bT hb4 ?_ ?_) | omega | (simp; omega) | simp)).mono HB.out.size)).trans (hK8.below (by have := HB.out.size; simp; omega) HL.out)
   have HB8 := hidI hb8
   have HL8 : Hid (∀ g, S' g → w5.heap.size ≤ g) := hidI fun g hg => by
    rcases hsub g hg with h | h | h
    ·exact HL.out g h
    ·exact h.elim
    ·have := HB.out.size; simp at h; omega
   clear hO8 hsub hK8 hb8 c0 c1 c3 HO3
   go_wp2_with fail
   go_roundg (R - (r + 1))
   case measure => omega
   case rel => exact ⟨r + 1, S', by omega, rfl, by go_num, by rw [List.range_succ, List.map_append]; exact HO8.out, HL8.out, HB8.out⟩
  ·obtain rfl : r = R := by omega
   have c0 := (blk HRr.out).1 0
   have c1 := (blk HRr.out).1 1
   have cf := (blk HRr.out).2
   have z1 := ltHeap HRr.out
   simp only [List.getElem?_toArray, List.getElem?_cons_zero, List.getElem?_cons_succ] at c0 c1
   go_wp2_with fail
   refine bodyPost_ret (v := .tuple #[.slice p r c2, .agg #[.int .i64 0, .int .i64 0]]) ?_ rfl ⟨.slice p r c2, S, rfl, ?_, fun g hg => Nat.le_trans HB5.out.size (HL.out g hg), ?_⟩
   ·simp [results, Tryd.results9, go_sem, *]
   ·rw [show rngL u.funcs[k] = (List.range r).map (pairS f) from by rw [HFe.out]; unfold rngL; rw [HRn.out]]
    refine HO2.out.loc locPair (fun i hi => ?_) (by simp [World.setCell])
    have h1 := HL.out i hi
    have h2 := HB5.out.size
    have h3 := ltHeap HR5.out
    have hne : i ≠ w.heap.size + 1 := by omega
    exact (Go.Deep.blk_setCell_other _ _ _ _ hne).trans (Go.Deep.blk_setCell_other _ _ _ _ hne)
   ·exact ((HB5.out.trans (HB.out.mono HB5.out.size)).setCell (by show w.heap.size ≤ w.heap.size + 1; omega) _).setCell (by show w.heap.size ≤ w.heap.size + 1; omega) _
end Go.Proofs.YtdjamkinijhjoaaDoor
