/-
  The contract of ssa.CheckOf: what is wrong with a function.
  Plain: what dom.TreeOf tells: whatever rules a block is on each way to it; where known registers are written.
-/
import Derived.WalkKit
import Derived.WalkSpells
import Derived.WalkLawsBesides
import Derived.Test.YtdjamkinijhjoaaDoorSsaC
namespace Go.Proofs.YtdjamkinijhjoaaDoor
open Go.RowKit Go.Shelf
attribute [local go_sem] Oper.semAt_some

def treeU (f : FunL) : Nat → Int := putI (treeK (insN f) (ordN f.blocks)) 0 (-1)
theorem treeL_end {bs : List BlkL} {o : List Nat} {ins : Nat → List Nat} (h : OrdOk bs o) : ∀ (k : Nat) (u : Nat → Int), TreeL bs o ins u k → TreeE bs o ins (treeK ins o)
 | 0, _, hL => by have := hL.fuel; omega
 | k + 1, u, hL => by
  cases hm : moreT (plN o) ins o u o.length
  ·obtain ⟨_, h2, h3⟩ := hL.last h hm
   rw [← h2]
   exact h3
  ·exact treeL_end h k _ (hL.next h hm)
theorem FunS.treeE {f : FunL} (h : FunS f) : TreeE f.blocks (ordN f.blocks) (insN f) (treeK (insN f) (ordN f.blocks)) :=
 treeL_end h.ord _ _ (TreeL.start h.ord (fun b c hb hc => ins_of b c hb hc) h.n1)
theorem FunS.treeU {f : FunL} (h : FunS f) : TreeU f.blocks.length (treeU f) (plN (ordN f.blocks)) := fun c hc => by
 have hE := h.treeE
 obtain ⟨par, hJ⟩ := hE.inv
 unfold Go.Proofs.YtdjamkinijhjoaaDoor.treeU putI
 split
 ·omega
 ·next h0 =>
  refine ⟨(hE.bd c).1, (hE.bd c).2, fun hp => ?_⟩
  exact hJ.less c hp h0

def ssaE (f : FunL) : Int :=
 if (postL f.blocks).length < f.blocks.length then 5
 else if (wrF' f).2 = false then 7
 else if usesF (wrF' f).1 (treeU f) (plN (ordN f.blocks)) f = false then 6
 else 0

set_option maxRecDepth 100000 in
set_option maxHeartbeats 4000000 in
theorem checkOf_any (f : FunL) (fp : Option Addr) (fc : Nat) (w : World) (hS : FunR' f) (hF : SliceAt w 6 (BlkR w) fp f.blocks) :
  Calls Tryd.prog 23 #[.agg #[.string f.name, .int .i64 f.params, .int .i64 f.regs, .slice fp f.blocks.length fc]] w fun e w' => e = .returned (.int .i64 (ssaE f)) ∧ Below w.heap.size w w' := by
 have HF := hidI hF
 have HS := hidI hS
 have n1 := hS.n1
 have n40 := hS.n40
 have hr100 := hS.reg
 have hp := hS.par
 obtain ⟨R, hR⟩ : ∃ R : Nat, f.regs = R := ⟨f.regs.toNat, by omega⟩
 have hRn : f.regs.toNat = R := by omega
 have hR100 : R ≤ 100 := by omega
 have HRn := hidI hRn
 have HRg := hidI hR
 clear hF hS hRn hR
 obtain ⟨W0, hW0⟩ : ∃ W0, W0 = w.alloc (.cells #[.string f.name, .int .i64 f.params, .int .i64 f.regs, .slice fp f.blocks.length fc] 37) := ⟨_, rfl⟩
 have hb0 : Below w.heap.size w W0 := by rw [hW0]; repeat (first | (with_reducible first | exact bR _ _ | exact bH ‹_› | refine bD ?_ | refine bN ?_ _ | refine bS ?_ ?_ _ | refine bA ?_ ?_ _ | refine bT hb3 ?_ ?_ | refine bT hb5 ?_ ?_ | refine bT hb4 ?_ ?_) | omega | (simp; omega) | simp)
 have hX0 : W0.heap[w.heap.size]? = some (.cells #[.string f.name, .int .i64 f.params, .int .i64 f.regs, .slice fp f.blocks.length fc] 37 (0, 0)) := by rw [hW0]; exact heap_here w _
 have hAll : ∀ W, Below W0.heap.size W0 W → W.cell? ⟨w.heap.size, 0, none⟩ = some (.string f.name) ∧ W.cell? ⟨w.heap.size, 1, none⟩ = some (.int .i64 f.params) ∧ W.cell? ⟨w.heap.size, 2, none⟩ = some (.int .i64 f.regs) ∧ W.cell? ⟨w.heap.size, 3, none⟩ = some (.slice fp f.blocks.length fc) := fun W h => by
  have h2 := (h.block _ (ltHeap hX0)).trans hX0
  exact ⟨(blk h2).1 0, (blk h2).1 1, (blk h2).1 2, (blk h2).1 3⟩
 have HAll := hidI hAll
 have HX0 := hidI hX0
 have HB0 := hidI hb0
 have HW0 := hidI hW0
 clear hAll hX0 hb0 hW0
 go_enter Tryd.func23, Tryd.ntmps23
 go_wp2_with fail
 rw [← HW0.out]
 refine wp_region_calm (S := fun w' => Below W0.heap.size W0 w') (by kernel_rfl) 11 ?_
 refine takeF 0 4 (.agg #[.string f.name, .int .i64 f.params, .int .i64 f.regs, .slice fp f.blocks.length fc]) rfl rfl (Nat.le_refl _) (by kernel_rfl) (by kernel_rfl) (by kernel_rfl) (fun _ _ _ h => h) (Or.inl ⟨by rfl, fun w' h => ?_⟩) (Below.refl _ _).drew ?_
 ·obtain ⟨h1, h2, h3, h4⟩ := HAll.out w' h
  go_simp
 refine takeF 1 5 (.agg #[.string f.name, .int .i64 f.params, .int .i64 f.regs, .slice fp f.blocks.length fc]) rfl rfl (Nat.le_refl _) (by kernel_rfl) (by kernel_rfl) (by kernel_rfl) (fun _ _ _ h => h) (Or.inl ⟨by rfl, fun w' h => ?_⟩) (Below.refl _ _).drew ?_
 ·obtain ⟨h1, h2, h3, h4⟩ := HAll.out w' h
  go_simp
 refine takeF 3 7 (.agg #[.int .i64 (-1), .int .i64 (-1)]) rfl rfl (Nat.le_refl _) (by kernel_rfl) (by kernel_rfl) (by kernel_rfl) (fun _ _ _ h => h) (Or.inl ⟨by rfl, fun w' h => ?_⟩) (Below.refl _ _).drew ?_
 ·obtain ⟨h1, h2, h3, h4⟩ := HAll.out w' h
  go_simp
 refine takeF 5 9 (.pointer (some ⟨w.heap.size, 2, none⟩)) rfl rfl (Nat.le_refl _) (by kernel_rfl) (by kernel_rfl) (by kernel_rfl) (fun _ _ _ h => h) (Or.inl ⟨by rfl, fun w' h => ?_⟩) (Below.refl _ _).drew ?_
 ·obtain ⟨h1, h2, h3, h4⟩ := HAll.out w' h
  go_simp
 refine takeF 6 10 (.int .i64 f.regs) rfl rfl (Nat.le_refl _) (by kernel_rfl) (by kernel_rfl) (by kernel_rfl) (fun _ _ _ h => h) (Or.inl ⟨by rfl, fun w' h => ?_⟩) (Below.refl _ _).drew ?_
 ·obtain ⟨h1, h2, h3, h4⟩ := HAll.out w' h
  go_simp
 refine stepZ_2 (i := 2) (j := 4) (by kernel_rfl) ?_ ?_
 ·refine stepZ_callTo 6 rfl rfl rfl (by go_simp) (treeOf_any f fp fc W0.drew HS.out.toFunS (blksMono HF.out (HB0.out.trans ((Below.refl _ W0).drew.mono HB0.out.size)))) ?_
  rintro e w2 ⟨⟨U, rfl, hUz, hU⟩, hb2⟩
  have hb2' : Below W0.heap.size W0 w2 := (Below.refl _ W0).drew.trans hb2
  refine ⟨_, rfl, hb2', ?_⟩
  refine stepZ_1 (i := 4) (by kernel_rfl) (stepZ_to 8 (.slice (some ⟨w2.heap.size, 0, none⟩) 1 1) (w2.alloc (.cells #[.int .i64 (-1), .int .i64 (-1)] 122)) rfl rfl rfl (by go_simp) (hb2'.alloc hb2'.size _) ?_)
  obtain ⟨Sb, hSb⟩ : ∃ Sb, Sb = w2.heap.size := ⟨_, rfl⟩
  obtain ⟨W5, hW5⟩ : ∃ W5, W5 = w2.alloc (.cells #[.int .i64 (-1), .int .i64 (-1)] 122) := ⟨_, rfl⟩
  have hcom : W5.rowIs U 3 f.blocks.length (fun c => .int .i64 (treeU f c)) ∧ W5.cell? ⟨Sb, 0, none⟩ = some (.int .i64 (-1)) ∧ W5.cell? ⟨Sb, 1, none⟩ = some (.int .i64 (-1)) ∧ Below W0.heap.size W0 W5 := by
   rw [hW5, hSb]
   exact ⟨hU.alloc _, (blk (heap_here w2 _)).1 0, (blk (heap_here w2 _)).1 1, hb2'.alloc hb2'.size _⟩
  rw [← hW5, ← hSb]
  clear hW5 hSb hb2 hb2' hU
  obtain ⟨hUr, hS0, hS1, hb5⟩ := hcom
  have hrep := repeat_wr Sb 0 1 (-1) R W5 (by omega) (fun j hj => by
   rcases (show j = 0 ∨ j = 1 by omega) with rfl | rfl
   ·exact hS0
   ·exact hS1)
  rw [← HRg.out] at hrep
  refine stepZ_1 (i := 7) (by kernel_rfl) (stepZ_callTo 11 rfl rfl rfl (by go_simp) hrep ?_)
  clear hrep
  rintro e W6 ⟨rfl, hB, hb6⟩
  have hb06 : Below W0.heap.size W0 W6 := hb5.trans (hb6.mono hb5.size)
  refine ⟨_, rfl, hb06, ?_⟩
  refine stepZ_1 (i := 8) (by kernel_rfl) (stepZ_to 12 (.agg #[.string f.name, .int .i64 f.params, .int .i64 f.regs, .slice fp f.blocks.length fc, .slice (some ⟨U, 0, none⟩) f.blocks.length f.blocks.length, .slice (some ⟨W5.heap.size, 0, none⟩) R R]) W6 rfl rfl rfl (by go_simp) hb06 ?_)
  refine stepZ_1 (i := 9) (by kernel_rfl) (stepZ_to 13 (.pointer (some ⟨W6.heap.size, 0, none⟩)) (W6.alloc (.cells #[.string f.name, .int .i64 f.params, .int .i64 f.regs, .slice fp f.blocks.length fc, .slice (some ⟨U, 0, none⟩) f.blocks.length f.blocks.length, .slice (some ⟨W5.heap.size, 0, none⟩) R R] 124)) rfl rfl rfl (by go_simp) (hb06.alloc hb06.size _) ?_)
  refine stepZ_1 (i := 10) (by kernel_rfl) (stepZ_to 3 (.pointer (some ⟨W6.heap.size, 0, none⟩)) (W6.alloc (.cells #[.string f.name, .int .i64 f.params, .int .i64 f.regs, .slice fp f.blocks.length fc, .slice (some ⟨U, 0, none⟩) f.blocks.length f.blocks.length, .slice (some ⟨W5.heap.size, 0, none⟩) R R] 124)) rfl rfl rfl (by go_simp) (hb06.alloc hb06.size _) (wpAnyZ_done (by kernel_rfl) ?_ _))
  obtain ⟨Wc, hWc⟩ : ∃ Wc, Wc = W6.alloc (.cells #[.string f.name, .int .i64 f.params, .int .i64 f.regs, .slice fp f.blocks.length fc, .slice (some ⟨U, 0, none⟩) f.blocks.length f.blocks.length, .slice (some ⟨W5.heap.size, 0, none⟩) R R] 124) := ⟨_, rfl⟩
  rw [← hWc]
  have hbc : Below W6.heap.size W6 Wc := by rw [hWc]; exact (Below.refl _ _).alloc (Nat.le_refl _) _
  have hC : CkBox Wc W6.heap.size f fp fc U W5.heap.size := by rw [hWc]; unfold CkBox; rw [HRn.out]; exact heap_here W6 _
  have hBr : Wc.rowIs W5.heap.size 122 (f.regs.toNat * 2) (wrF wr0) := by
   rw [HRn.out]
   refine (hB.of_block (hbc.block _ hB.lt)).congr fun j _ => ?_
   unfold wrF wr0
   split <;> rfl
  have hUc : Wc.rowIs U 3 f.blocks.length (fun c => .int .i64 (treeU f c)) := (hUr.of_block (hb6.block U hUr.lt)).of_block (hbc.block U (by have := hUr.lt; have := hb6.size; omega))
  have hb0c : Below W0.heap.size W0 Wc := hb06.trans (hbc.mono hb06.size)
  have hW5z : W0.heap.size ≤ W5.heap.size := hb5.size
  have hz56 : W5.heap.size < W6.heap.size := hB.lt
  have hUz5 : U < W5.heap.size := hUr.lt
  have HC := hidI hC
  have HBr := hidI hBr
  have HUc := hidI hUc
  have HB0c := hidI hb0c
  clear hUr hS0 hS1 hb5 hB hb6 hb06 hbc hC hBr hUc hb0c hWc
  simp only [calm, Exit.then]
  go_simp
  go_wp2_with fail
  have hAc : ∀ W, Below Wc.heap.size Wc W → _ := fun W h => HAll.out W (HB0c.out.trans (h.mono HB0c.out.size))
  have HAc := hidI hAc
  clear hAc
  refine wp_region_calm (S := fun w' => Below Wc.heap.size Wc w') (by kernel_rfl) 8 ?_
  refine takeF 0 15 (.agg #[.string f.name, .int .i64 f.params, .int .i64 f.regs, .slice fp f.blocks.length fc]) rfl rfl (Nat.le_refl _) (by kernel_rfl) (by kernel_rfl) (by kernel_rfl) (fun _ _ _ h => h) (Or.inl ⟨by rfl, fun w' h => ?_⟩) (Below.refl _ _).drew ?_
  ·obtain ⟨h1, h2, h3, h4⟩ := HAc.out w' h
   go_simp
  refine takeF 3 18 (.pointer (some ⟨w.heap.size, 3, none⟩)) rfl rfl (Nat.le_refl _) (by kernel_rfl) (by kernel_rfl) (by kernel_rfl) (fun _ _ _ h => h) (Or.inl ⟨by rfl, fun w' h => ?_⟩) (Below.refl _ _).drew ?_
  ·obtain ⟨h1, h2, h3, h4⟩ := HAc.out w' h
   go_simp
  refine takeF 4 19 (.slice fp f.blocks.length fc) rfl rfl (Nat.le_refl _) (by kernel_rfl) (by kernel_rfl) (by kernel_rfl) (fun _ _ _ h => h) (Or.inl ⟨by rfl, fun w' h => ?_⟩) (Below.refl _ _).drew ?_
  ·obtain ⟨h1, h2, h3, h4⟩ := HAc.out w' h
   go_simp
  refine takeF 5 20 (.int .i64 f.blocks.length) rfl rfl (Nat.le_refl _) (by kernel_rfl) (by kernel_rfl) (by kernel_rfl) (fun _ _ _ h => h) (Or.inl ⟨by rfl, fun w' h => ?_⟩) (Below.refl _ _).drew ?_
  ·obtain ⟨h1, h2, h3, h4⟩ := HAc.out w' h
   go_simp
  refine stepZ_1 (i := 1) (by kernel_rfl) (stepZ_callTo 16 rfl rfl rfl (by go_simp) (post_any f fp fc Wc.drew n1 (by omega) HS.out.two HS.out.tosB (blksMono HF.out (HB0.out.trans ((HB0c.out.drew).mono HB0.out.size)))) ?_)
  rintro e W7 ⟨vp, rfl, hO, hb7⟩
  obtain ⟨pp, pc, rfl⟩ := own_slice hO
  have hb7' : Below Wc.heap.size Wc W7 := (Below.refl _ Wc).drew.trans hb7
  clear hO hb7
  refine ⟨_, rfl, hb7', ?_⟩
  obtain ⟨L, hL⟩ : ∃ L, L = (postL f.blocks).length := ⟨_, rfl⟩
  rw [← hL]
  have HL := hidI hL
  clear hL
  refine stepZ_1 (i := 2) (by kernel_rfl) (stepZ_to 17 (.int .i64 (L : Nat)) W7 rfl rfl rfl (by go_simp) hb7' ?_)
  refine stepZ_1 (i := 6) (by kernel_rfl) (stepZ_to 21 (.bool (decide (L < f.blocks.length))) W7 rfl rfl rfl (by go_simp) hb7' ?_)
  refine stepZ_1 (i := 7) (by kernel_rfl) (stepZ_to 14 (.bool (decide (L < f.blocks.length))) W7 rfl rfl rfl (by go_simp) hb7' (wpAnyZ_done (by kernel_rfl) ?_ _))
  simp only [calm, Exit.then]
  have hB7 : Below w.heap.size w W7 := HB0.out.trans ((HB0c.out.trans (hb7'.mono HB0c.out.size)).mono HB0.out.size)
  have hC7 := (hb7'.block _ (ltHeap HC.out)).trans HC.out
  have hR7 := HBr.out.of_block (hb7'.block _ HBr.out.lt)
  have hU7 := HUc.out.of_block (hb7'.block _ HUc.out.lt)
  have HC7 := hidI (show CkBox W7 W6.heap.size f fp fc U W5.heap.size from hC7)
  have HR7 := hidI hR7
  have HU7 := hidI hU7
  have HB7 := hidI hB7
  clear hb7' hB7 hC7 hR7 hU7
  by_cases hl : L < f.blocks.length
  ·have hE : ssaE f = 5 := by unfold ssaE; rw [if_pos (by rw [← HL.out]; exact hl)]
   have HE := hidI hE
   rw [decide_eq_true hl]
   clear hE hl
   go_simp
   go_wp2_with fail
   go_ret
   exact ⟨by rw [HE.out]; rfl, HB7.out⟩
  ·rw [decide_eq_false hl]
   have HE := hidI (show ssaE f = if (wrF' f).2 = false then 7 else if usesF (wrF' f).1 (treeU f) (plN (ordN f.blocks)) f = false then 6 else 0 from by unfold ssaE; rw [if_neg (by rw [← HL.out]; exact hl)])
   clear hl
   go_simp
   go_wp2_with fail
   refine (writes_any f fp fc W6.heap.size U W5.heap.size w W7 HS.out HF.out HB7.out (by have := HB0.out.size; omega) (by omega) HC7.out HR7.out).mono ?_
   rintro e W8 ⟨rfl, hR8, hK8⟩
   have hB8 : Below w.heap.size w W8 := HB7.out.trans (hK8.below HB7.out.size fun i hi => by have := HB0.out.size; omega)
   have HC8 := hidI (show CkBox W8 W6.heap.size f fp fc U W5.heap.size from (hK8.block _ (ltHeap HC7.out) (by omega)).trans HC7.out)
   have HU8 := hidI (HU7.out.of_block (hK8.block U HU7.out.lt (by omega)))
   have HR8 := hidI hR8
   have HB8 := hidI hB8
   clear hR8 hK8 hB8
   obtain ⟨wf, hwf⟩ : ∃ wf, wf = wrF' f := ⟨_, rfl⟩
   have HWo := hidI (show WrOk f.blocks.length wf.1 from by rw [hwf]; exact wrF_ok n1)
   rw [← hwf] at HE HR8 ⊢
   clear hwf
   obtain ⟨wb, ok⟩ := wf
   cases ok with
   | false =>
    go_wp2_with fail
    go_ret
    exact ⟨by rw [HE.out]; rfl, HB8.out⟩
   | true =>
    go_wp2_with fail
    refine (uses_any f fp fc W6.heap.size U W5.heap.size wb (treeU f) (plN (ordN f.blocks)) w W8 HS.out HF.out HB8.out HC8.out HR8.out HU8.out HS.out.treeU HWo.out).mono ?_
    rintro e W9 ⟨rfl, hb9⟩
    have HB9 := hidI (HB8.out.trans (hb9.mono HB8.out.size))
    clear hb9
    obtain ⟨r, hr⟩ : ∃ r, r = usesF wb (treeU f) (plN (ordN f.blocks)) f := ⟨_, rfl⟩
    rw [← hr]
    have HE2 := hidI (show ssaE f = if r = false then 6 else 0 from by rw [HE.out, hr]; rfl)
    clear hr HE
    cases r with
    | false =>
     go_wp2_with fail
     go_ret
     exact ⟨by rw [HE2.out]; rfl, HB9.out⟩
    | true =>
     go_wp2_with fail
     go_ret
     exact ⟨by rw [HE2.out]; rfl, HB9.out⟩
 ·refine stepZ_to 8 (.slice (some ⟨W0.heap.size, 0, none⟩) 1 1) (W0.drew.alloc (.cells #[.int .i64 (-1), .int .i64 (-1)] 122)) rfl rfl rfl (by go_simp) ((Below.refl _ W0).drew.alloc (Nat.le_refl _) _) ?_
  obtain ⟨w2, hw2⟩ : ∃ w2, w2 = W0.drew.alloc (.cells #[.int .i64 (-1), .int .i64 (-1)] 122) := ⟨_, rfl⟩
  have hb2' : Below W0.heap.size W0 w2 := by rw [hw2]; exact (Below.refl _ W0).drew.alloc (Nat.le_refl _) _
  have hSb2 : w2.heap[W0.heap.size]? = some (.cells #[.int .i64 (-1), .int .i64 (-1)] 122 (0, 0)) := by rw [hw2]; exact heap_here W0.drew _
  rw [← hw2]
  clear hw2
  refine stepZ_1 (i := 2) (by kernel_rfl) ?_
  refine stepZ_callTo 6 rfl rfl rfl (by go_simp) (treeOf_any f fp fc w2 HS.out.toFunS (blksMono HF.out (HB0.out.trans (hb2'.mono HB0.out.size)))) ?_
  rintro e W5 ⟨⟨U, rfl, hUz, hU⟩, hb3⟩
  have hb5' : Below W0.heap.size W0 W5 := hb2'.trans (hb3.mono hb2'.size)
  refine ⟨_, rfl, hb5', ?_⟩
  have hcom : W5.rowIs U 3 f.blocks.length (fun c => .int .i64 (treeU f c)) ∧ W5.cell? ⟨W0.heap.size, 0, none⟩ = some (.int .i64 (-1)) ∧ W5.cell? ⟨W0.heap.size, 1, none⟩ = some (.int .i64 (-1)) ∧ Below W0.heap.size W0 W5 := by
   have h2 := (hb3.block _ (ltHeap hSb2)).trans hSb2
   exact ⟨hU, (blk h2).1 0, (blk h2).1 1, hb5'⟩
  clear hb2' hb3 hb5' hU hSb2
  obtain ⟨hUr, hS0, hS1, hb5⟩ := hcom
  have hrep := repeat_wr W0.heap.size 0 1 (-1) R W5 (by omega) (fun j hj => by
   rcases (show j = 0 ∨ j = 1 by omega) with rfl | rfl
   ·exact hS0
   ·exact hS1)
  rw [← HRg.out] at hrep
  refine stepZ_1 (i := 7) (by kernel_rfl) (stepZ_callTo 11 rfl rfl rfl (by go_simp) hrep ?_)
  clear hrep
  rintro e W6 ⟨rfl, hB, hb6⟩
  have hb06 : Below W0.heap.size W0 W6 := hb5.trans (hb6.mono hb5.size)
  refine ⟨_, rfl, hb06, ?_⟩
  refine stepZ_1 (i := 8) (by kernel_rfl) (stepZ_to 12 (.agg #[.string f.name, .int .i64 f.params, .int .i64 f.regs, .slice fp f.blocks.length fc, .slice (some ⟨U, 0, none⟩) f.blocks.length f.blocks.length, .slice (some ⟨W5.heap.size, 0, none⟩) R R]) W6 rfl rfl rfl (by go_simp) hb06 ?_)
  refine stepZ_1 (i := 9) (by kernel_rfl) (stepZ_to 13 (.pointer (some ⟨W6.heap.size, 0, none⟩)) (W6.alloc (.cells #[.string f.name, .int .i64 f.params, .int .i64 f.regs, .slice fp f.blocks.length fc, .slice (some ⟨U, 0, none⟩) f.blocks.length f.blocks.length, .slice (some ⟨W5.heap.size, 0, none⟩) R R] 124)) rfl rfl rfl (by go_simp) (hb06.alloc hb06.size _) ?_)
  refine stepZ_1 (i := 10) (by kernel_rfl) (stepZ_to 3 (.pointer (some ⟨W6.heap.size, 0, none⟩)) (W6.alloc (.cells #[.string f.name, .int .i64 f.params, .int .i64 f.regs, .slice fp f.blocks.length fc, .slice (some ⟨U, 0, none⟩) f.blocks.length f.blocks.length, .slice (some ⟨W5.heap.size, 0, none⟩) R R] 124)) rfl rfl rfl (by go_simp) (hb06.alloc hb06.size _) (wpAnyZ_done (by kernel_rfl) ?_ _))
  obtain ⟨Wc, hWc⟩ : ∃ Wc, Wc = W6.alloc (.cells #[.string f.name, .int .i64 f.params, .int .i64 f.regs, .slice fp f.blocks.length fc, .slice (some ⟨U, 0, none⟩) f.blocks.length f.blocks.length, .slice (some ⟨W5.heap.size, 0, none⟩) R R] 124) := ⟨_, rfl⟩
  rw [← hWc]
  have hbc : Below W6.heap.size W6 Wc := by rw [hWc]; exact (Below.refl _ _).alloc (Nat.le_refl _) _
  have hC : CkBox Wc W6.heap.size f fp fc U W5.heap.size := by rw [hWc]; unfold CkBox; rw [HRn.out]; exact heap_here W6 _
  have hBr : Wc.rowIs W5.heap.size 122 (f.regs.toNat * 2) (wrF wr0) := by
   rw [HRn.out]
   refine (hB.of_block (hbc.block _ hB.lt)).congr fun j _ => ?_
   unfold wrF wr0
   split <;> rfl
  have hUc : Wc.rowIs U 3 f.blocks.length (fun c => .int .i64 (treeU f c)) := (hUr.of_block (hb6.block U hUr.lt)).of_block (hbc.block U (by have := hUr.lt; have := hb6.size; omega))
  have hb0c : Below W0.heap.size W0 Wc := hb06.trans (hbc.mono hb06.size)
  have hW5z : W0.heap.size ≤ W5.heap.size := hb5.size
  have hz56 : W5.heap.size < W6.heap.size := hB.lt
  have hUz5 : U < W5.heap.size := hUr.lt
  have HC := hidI hC
  have HBr := hidI hBr
  have HUc := hidI hUc
  have HB0c := hidI hb0c
  clear hUr hS0 hS1 hb5 hB hb6 hb06 hbc hC hBr hUc hb0c hWc
  simp only [calm, Exit.then]
  go_simp
  go_wp2_with fail
  have hAc : ∀ W, Below Wc.heap.size Wc W → _ := fun W h => HAll.out W (HB0c.out.trans (h.mono HB0c.out.size))
  have HAc := hidI hAc
  clear hAc
  refine wp_region_calm (S := fun w' => Below Wc.heap.size Wc w') (by kernel_rfl) 8 ?_
  refine takeF 0 15 (.agg #[.string f.name, .int .i64 f.params, .int .i64 f.regs, .slice fp f.blocks.length fc]) rfl rfl (Nat.le_refl _) (by kernel_rfl) (by kernel_rfl) (by kernel_rfl) (fun _ _ _ h => h) (Or.inl ⟨by rfl, fun w' h => ?_⟩) (Below.refl _ _).drew ?_
  ·obtain ⟨h1, h2, h3, h4⟩ := HAc.out w' h
   go_simp
  refine takeF 3 18 (.pointer (some ⟨w.heap.size, 3, none⟩)) rfl rfl (Nat.le_refl _) (by kernel_rfl) (by kernel_rfl) (by kernel_rfl) (fun _ _ _ h => h) (Or.inl ⟨by rfl, fun w' h => ?_⟩) (Below.refl _ _).drew ?_
  ·obtain ⟨h1, h2, h3, h4⟩ := HAc.out w' h
   go_simp
  refine takeF 4 19 (.slice fp f.blocks.length fc) rfl rfl (Nat.le_refl _) (by kernel_rfl) (by kernel_rfl) (by kernel_rfl) (fun _ _ _ h => h) (Or.inl ⟨by rfl, fun w' h => ?_⟩) (Below.refl _ _).drew ?_
  ·obtain ⟨h1, h2, h3, h4⟩ := HAc.out w' h
   go_simp
  refine takeF 5 20 (.int .i64 f.blocks.length) rfl rfl (Nat.le_refl _) (by kernel_rfl) (by kernel_rfl) (by kernel_rfl) (fun _ _ _ h => h) (Or.inl ⟨by rfl, fun w' h => ?_⟩) (Below.refl _ _).drew ?_
  ·obtain ⟨h1, h2, h3, h4⟩ := HAc.out w' h
   go_simp
  refine stepZ_1 (i := 1) (by kernel_rfl) (stepZ_callTo 16 rfl rfl rfl (by go_simp) (post_any f fp fc Wc.drew n1 (by omega) HS.out.two HS.out.tosB (blksMono HF.out (HB0.out.trans ((HB0c.out.drew).mono HB0.out.size)))) ?_)
  rintro e W7 ⟨vp, rfl, hO, hb7⟩
  obtain ⟨pp, pc, rfl⟩ := own_slice hO
  have hb7' : Below Wc.heap.size Wc W7 := (Below.refl _ Wc).drew.trans hb7
  clear hO hb7
  refine ⟨_, rfl, hb7', ?_⟩
  obtain ⟨L, hL⟩ : ∃ L, L = (postL f.blocks).length := ⟨_, rfl⟩
  rw [← hL]
  have HL := hidI hL
  clear hL
  refine stepZ_1 (i := 2) (by kernel_rfl) (stepZ_to 17 (.int .i64 (L : Nat)) W7 rfl rfl rfl (by go_simp) hb7' ?_)
  refine stepZ_1 (i := 6) (by kernel_rfl) (stepZ_to 21 (.bool (decide (L < f.blocks.length))) W7 rfl rfl rfl (by go_simp) hb7' ?_)
  refine stepZ_1 (i := 7) (by kernel_rfl) (stepZ_to 14 (.bool (decide (L < f.blocks.length))) W7 rfl rfl rfl (by go_simp) hb7' (wpAnyZ_done (by kernel_rfl) ?_ _))
  simp only [calm, Exit.then]
  have hB7 : Below w.heap.size w W7 := HB0.out.trans ((HB0c.out.trans (hb7'.mono HB0c.out.size)).mono HB0.out.size)
  have hC7 := (hb7'.block _ (ltHeap HC.out)).trans HC.out
  have hR7 := HBr.out.of_block (hb7'.block _ HBr.out.lt)
  have hU7 := HUc.out.of_block (hb7'.block _ HUc.out.lt)
  have HC7 := hidI (show CkBox W7 W6.heap.size f fp fc U W5.heap.size from hC7)
  have HR7 := hidI hR7
  have HU7 := hidI hU7
  have HB7 := hidI hB7
  clear hb7' hB7 hC7 hR7 hU7
  by_cases hl : L < f.blocks.length
  ·have hE : ssaE f = 5 := by unfold ssaE; rw [if_pos (by rw [← HL.out]; exact hl)]
   have HE := hidI hE
   rw [decide_eq_true hl]
   clear hE hl
   go_simp
   go_wp2_with fail
   go_ret
   exact ⟨by rw [HE.out]; rfl, HB7.out⟩
  ·rw [decide_eq_false hl]
   have HE := hidI (show ssaE f = if (wrF' f).2 = false then 7 else if usesF (wrF' f).1 (treeU f) (plN (ordN f.blocks)) f = false then 6 else 0 from by unfold ssaE; rw [if_neg (by rw [← HL.out]; exact hl)])
   clear hl
   go_simp
   go_wp2_with fail
   refine (writes_any f fp fc W6.heap.size U W5.heap.size w W7 HS.out HF.out HB7.out (by have := HB0.out.size; omega) (by omega) HC7.out HR7.out).mono ?_
   rintro e W8 ⟨rfl, hR8, hK8⟩
   have hB8 : Below w.heap.size w W8 := HB7.out.trans (hK8.below HB7.out.size fun i hi => by have := HB0.out.size; omega)
   have HC8 := hidI (show CkBox W8 W6.heap.size f fp fc U W5.heap.size from (hK8.block _ (ltHeap HC7.out) (by omega)).trans HC7.out)
   have HU8 := hidI (HU7.out.of_block (hK8.block U HU7.out.lt (by omega)))
   have HR8 := hidI hR8
   have HB8 := hidI hB8
   clear hR8 hK8 hB8
   obtain ⟨wf, hwf⟩ : ∃ wf, wf = wrF' f := ⟨_, rfl⟩
   have HWo := hidI (show WrOk f.blocks.length wf.1 from by rw [hwf]; exact wrF_ok n1)
   rw [← hwf] at HE HR8 ⊢
   clear hwf
   obtain ⟨wb, ok⟩ := wf
   cases ok with
   | false =>
    go_wp2_with fail
    go_ret
    exact ⟨by rw [HE.out]; rfl, HB8.out⟩
   | true =>
    go_wp2_with fail
    refine (uses_any f fp fc W6.heap.size U W5.heap.size wb (treeU f) (plN (ordN f.blocks)) w W8 HS.out HF.out HB8.out HC8.out HR8.out HU8.out HS.out.treeU HWo.out).mono ?_
    rintro e W9 ⟨rfl, hb9⟩
    have HB9 := hidI (HB8.out.trans (hb9.mono HB8.out.size))
    clear hb9
    obtain ⟨r, hr⟩ : ∃ r, r = usesF wb (treeU f) (plN (ordN f.blocks)) f := ⟨_, rfl⟩
    rw [← hr]
    have HE2 := hidI (show ssaE f = if r = false then 6 else 0 from by rw [HE.out, hr]; rfl)
    clear hr HE
    cases r with
    | false =>
     go_wp2_with fail
     go_ret
     exact ⟨by rw [HE2.out]; rfl, HB9.out⟩
    | true =>
     go_wp2_with fail
     go_ret
     exact ⟨by rw [HE2.out]; rfl, HB9.out⟩
end Go.Proofs.YtdjamkinijhjoaaDoor
namespace Go.Proofs.YtdjamkinijhjoaaDoor
open Go.RowKit

variable {bs : List BlkL} {o : List Nat} {ins : Nat → List Nat} {u : Nat → Int}
theorem moreT_down {pl : Nat → Nat} : ∀ {n : Nat}, moreT pl ins o u n = false → ∀ i, i + 2 ≤ n → moreT pl ins o u (i + 2) = false
 | 0, _, i, hi => by omega
 | 1, _, i, hi => by omega
 | n + 2, h, i, hi => by
  by_cases e : i = n
  ·subst e; exact h
  ·rw [moreT_succ, Bool.or_eq_false_iff] at h
   exact moreT_down h.1 i (by omega)
theorem TreeE.fix (h : OrdOk bs o) (hE : TreeE bs o ins u) : (∀ c ∈ o, mkN u c) ∧ ∀ c ∈ o, c ≠ 0 → u c = bestsI u (plN o) (ins c) := by
 obtain ⟨par, hJ⟩ := hE.inv
 have hp := h.pos
 obtain ⟨m, hm⟩ : ∃ m, o.length = m + 1 := ⟨o.length - 1, by omega⟩
 have same : ∀ i, i + 1 ≤ o.length → moreT (plN o) ins o u (i + 1) = false → roundT (plN o) ins o u (i + 1) = u := fun i hi hf => by
  rcases h.round2 hJ i hi with h2 | h2
  ·exact h2.2
  ·rw [hf] at h2; cases h2.1
 refine ⟨fun c hc => ?_, fun c hc h0 => ?_⟩
 ·have h1 := (h.round hJ m (by omega)).1
  have h2 := same m (by omega) (by rw [← hm]; exact hE.calm)
  rw [h2] at h1
  exact h1.past c hc (by have := h.lt hc; omega)
 ·obtain ⟨k, hk, rfl⟩ := List.getElem_of_mem hc
  obtain ⟨l, hl⟩ := h.root
  cases k with
  | zero => exact absurd (by simp [hl]) h0
  | succ i =>
   have h3 := moreT_down hE.calm i (by omega)
   have h4 := h3
   rw [moreT_succ, Bool.or_eq_false_iff] at h4
   have h5 := same i (by omega) h4.1
   have h6 := h4.2
   rw [h5, (h.getD hk).1] at h6
   simpa using h6
theorem TreeE.dom (h : OrdOk bs o) (hE : TreeE bs o ins u) {c p : Nat} (hc : c ∈ o) (h0 : c ≠ 0) (hp : p ∈ ins c) (hpo : p ∈ o) {x : Nat} (hx : Ch (upN u) c x) (hne : x ≠ c) : Ch (upN u) p x := by
 obtain ⟨hm, hf⟩ := hE.fix h
 obtain ⟨par, hJ⟩ := hE.inv
 have hb := hJ.toDomI.bests (ins c) (-1) (fun hn => by omega) (.inr ⟨p, hp, hm p hpo⟩)
 have h1 := hb.on p hp (hm p hpo)
 have e : (ins c).foldl (bestI u (plN o)) (-1) = u c := (hf c hc h0).symm
 rw [e] at h1
 cases hx with
 | refl => exact absurd rfl hne
 | step _ h2 => exact h1.trans h2
theorem rules_ch : ∀ (k : Nat) (a b : Int), rulesN (putI u 0 (-1)) a k b = true → 0 ≤ a → 0 ≤ b → Ch (upN u) b.toNat a.toNat
 | 0, a, b, h, _, _ => by
  have e : a = b := by unfold rulesN at h; simpa using h
  rw [e]; exact .refl _
 | k + 1, a, b, h, ha, hb => by
  unfold rulesN at h
  split at h
  ·next hc =>
   by_cases e : b = 0
   ·subst e
    have e2 : putI u 0 (-1) (0 : Int).toNat = -1 := by simp [putI]
    rw [e2] at h
    cases k with
    | zero =>
     unfold rulesN at h
     have : a = -1 := by simpa using h
     omega
    | succ k =>
     unfold rulesN at h
     rw [if_neg (by omega)] at h
     have : a = -1 := by simpa using h
     omega
   ·have e2 : putI u 0 (-1) b.toNat = u b.toNat := by unfold putI; rw [if_neg (by omega)]
    rw [e2] at h
    by_cases hu : 0 ≤ u b.toNat
    ·have ih := rules_ch k a (u b.toNat) h ha hu
     exact .step (by omega) ih
    ·exfalso
     cases k with
     | zero =>
      unfold rulesN at h
      have : a = u b.toNat := by simpa using h
      omega
     | succ k =>
      unfold rulesN at h
      rw [if_neg (by omega)] at h
      have : a = u b.toNat := by simpa using h
      omega
  ·have e : a = b := by simpa using h
   rw [e]; exact .refl _
theorem ch_root {up : Nat → Nat} {x : Nat} (h : Ch up 0 x) : x = 0 := by
 cases h with
 | refl => rfl
 | step h0 _ => exact absurd rfl h0

theorem wr_mem : ∀ (L : List WrE) (s : (Nat → Int × Int) × Bool) (v : Nat), 0 ≤ ((L.foldl wrStep s).1 v).1 → (L.foldl wrStep s).1 v = s.1 v ∨ ∃ e ∈ L, e.r = v ∧ (L.foldl wrStep s).1 v = (e.b, e.a)
 | [], s, v, _ => .inl rfl
 | e :: L, s, v, h => by
  rcases wr_mem L (wrStep s e) v h with h1 | ⟨e', h1, h2⟩
  ·have h2 : (L.foldl wrStep (wrStep s e)).1 v = wrPut s.1 e.r e.b e.a v := h1
   unfold wrPut at h2
   by_cases hc : v = e.r ∧ (s.1 e.r).1 < 0
   ·rw [if_pos hc] at h2
    exact .inr ⟨e, List.mem_cons_self, hc.1.symm, h2⟩
   ·rw [if_neg hc] at h2
    exact .inl h2
  ·exact .inr ⟨e', List.mem_cons_of_mem _ h1, h2⟩
theorem wrF_mem {f : FunL} {v : Nat} (h : 0 ≤ ((wrF' f).1 v).1) : ∃ e ∈ wrAll f, e.r = v ∧ (wrF' f).1 v = (e.b, e.a) := by
 rcases wr_mem (wrAll f) (wr0, true) v h with h1 | h1
 ·unfold wrF' at h
  rw [h1] at h
  exact absurd h (by show ¬ (0 : Int) ≤ -1; omega)
 ·exact h1
theorem wrAll_is {f : FunL} {e : WrE} (h : e ∈ wrAll f) : (e.b = 0 ∧ e.a = -1 ∧ e.r < f.params.toNat) ∨
  ∃ j, ∃ hj : j < f.blocks.length, e.b = j ∧ ((e.a = -1 ∧ ∃ p ∈ f.blocks[j].phis, p.dst.toNat = e.r) ∨ ∃ i, ∃ hi : i < f.blocks[j].list.length, e.a = i ∧ 0 ≤ (f.blocks[j].list[i]).dst ∧ (f.blocks[j].list[i]).dst.toNat = e.r) := by
 unfold wrAll at h
 rcases List.mem_append.1 h with h | h
 ·unfold wrPar at h
  obtain ⟨r, hr, rfl⟩ := List.mem_map.1 h
  exact .inl ⟨rfl, rfl, List.mem_range.1 hr⟩
 ·obtain ⟨j, hj, h⟩ := flatI_mem h
  rw [Nat.zero_add] at h
  unfold wrBlk at h
  refine .inr ⟨j, hj, ?_⟩
  rcases List.mem_append.1 h with h | h
  ·obtain ⟨p, hp, rfl⟩ := List.mem_map.1 h
   exact ⟨rfl, .inl ⟨rfl, p, hp, rfl⟩⟩
  ·obtain ⟨i, hi, h⟩ := flatI_mem h
   rw [Nat.zero_add] at h
   unfold wrIns at h
   split at h
   ·cases h
   ·next hd =>
    rw [List.mem_singleton.1 h]
    exact ⟨rfl, .inr ⟨i, hi, rfl, by omega, rfl⟩⟩
end Go.Proofs.YtdjamkinijhjoaaDoor
