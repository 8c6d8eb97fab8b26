/-
  The contract of ssa.CheckOf: what is wrong with a function.
  The contract of ssa.Check.
-/
import Derived.WalkKit
import Derived.WalkSpells
import Derived.WalkLawsBesides
import Derived.Test.YtdjamkinijhjoaaDoorSsaC
import Derived.Laws.EntriesVeiled
import Derived.Deep.OwnRows
import Derived.Test.YtdjamkinijhjoaaDoorJCalG
import Derived.Test.YtdjamkinijhjoaaDoorJOwnA
import Derived.Test.YtdjamkinijhjoaaDoorJDomC
namespace Go.Proofs.YtdjamkinijhjoaaDoor
open Go.RowKit Go.Shelf
attribute [local go_sem] Oper.semAt_some

/-- the tree as it is told -/
def treeU (f : FunL) : Nat → Int := putI (treeK (insN f) (ordN f.blocks)) 0 (-1)
theorem treeL_end {bs : List BlkL} {o : List Nat} {ins : Nat → List Nat} (h : OrdOk bs o) : ∀ (k : Nat) (u : Nat → Int), TreeL bs o ins u k → TreeE bs o ins (treeK ins o)
  | 0, _, hL => by have := hL.fuel; omega
  | k + 1, u, hL => by
    cases hm : moreT (plN o) ins o u o.length
    · obtain ⟨_, h2, h3⟩ := hL.last h hm
      rw [← h2]
      exact h3
    · exact treeL_end h k _ (hL.next h hm)
theorem FunS.treeE {f : FunL} (h : FunS f) : TreeE f.blocks (ordN f.blocks) (insN f) (treeK (insN f) (ordN f.blocks)) :=
  treeL_end h.ord _ _ (TreeL.start h.ord (fun b c hb hc => ins_of b c hb hc) h.n1)
theorem FunS.treeU {f : FunL} (h : FunS f) : TreeU f.blocks.length (treeU f) (plN (ordN f.blocks)) := fun c hc => by
  have hE := h.treeE
  obtain ⟨par, hJ⟩ := hE.inv
  unfold Go.Proofs.YtdjamkinijhjoaaDoor.treeU putI
  split
  · omega
  · next h0 =>
    refine ⟨(hE.bd c).1, (hE.bd c).2, fun hp => ?_⟩
    exact hJ.less c hp h0

/-- what is wrong with a function in static single assignment -/
def ssaE (f : FunL) : Int :=
  if (postL f.blocks).length < f.blocks.length then 5
  else if (wrF' f).2 = false then 7
  else if usesF (wrF' f).1 (treeU f) (plN (ordN f.blocks)) f = false then 6
  else 0

set_option maxRecDepth 100000 in
set_option maxHeartbeats 4000000 in
theorem checkOf_any (f : FunL) (fp : Option Addr) (fc : Nat) (w : World) (hS : FunR' f) (hF : SliceAt w 6 (BlkR w) fp f.blocks) :
    Calls Tryd.prog 23 #[.agg #[.string f.name, .int .i64 f.params, .int .i64 f.regs, .slice fp f.blocks.length fc]] w fun e w' => e = .returned (.int .i64 (ssaE f)) ∧ Below w.heap.size w w' := by
  have HF := hidI hF
  have HS := hidI hS
  have n1 := hS.n1
  have n40 := hS.n40
  have hr100 := hS.reg
  have hp := hS.par
  obtain ⟨R, hR⟩ : ∃ R : Nat, f.regs = R := ⟨f.regs.toNat, by omega⟩
  have hRn : f.regs.toNat = R := by omega
  have hR100 : R ≤ 100 := by omega
  have HRn := hidI hRn
  have HRg := hidI hR
  clear hF hS hRn hR
  obtain ⟨W0, hW0⟩ : ∃ W0, W0 = w.alloc (.cells #[.string f.name, .int .i64 f.params, .int .i64 f.regs, .slice fp f.blocks.length fc] 37) := ⟨_, rfl⟩
  have hb0 : Below w.heap.size w W0 := by rw [hW0]; repeat (first | with_reducible exact Below.refl _ _ | with_reducible exact HB3.out | with_reducible refine Below.drew ?_ | with_reducible refine below_drewN ?_ _ | with_reducible refine Below.setCell ?_ ?_ _ | with_reducible refine Below.alloc ?_ ?_ _ | with_reducible exact HB2.out | with_reducible exact HB1.out | with_reducible refine Below.trans ?_ (Below.mono hb3 ?_) | with_reducible refine Below.trans ?_ (Below.mono hb5 ?_) | with_reducible refine Below.trans ?_ (Below.mono hb4 ?_) | omega | (simp; omega) | simp)
  have hX0 : W0.heap[w.heap.size]? = some (.cells #[.string f.name, .int .i64 f.params, .int .i64 f.regs, .slice fp f.blocks.length fc] 37 (0, 0)) := by rw [hW0]; exact heap_here w _
  have hAll : ∀ W, Below W0.heap.size W0 W → W.cell? ⟨w.heap.size, 0, none⟩ = some (.string f.name) ∧ W.cell? ⟨w.heap.size, 1, none⟩ = some (.int .i64 f.params) ∧ W.cell? ⟨w.heap.size, 2, none⟩ = some (.int .i64 f.regs) ∧ W.cell? ⟨w.heap.size, 3, none⟩ = some (.slice fp f.blocks.length fc) := fun W h => by
    have h2 := (h.block _ (ltHeap hX0)).trans hX0
    exact ⟨(blk h2).1 0, (blk h2).1 1, (blk h2).1 2, (blk h2).1 3⟩
  have HAll := hidI hAll
  have HX0 := hidI hX0
  have HB0 := hidI hb0
  have HW0 := hidI hW0
  clear hAll hX0 hb0 hW0
  go_enter Tryd.func23, Tryd.ntmps23
  go_wp2_with fail
  rw [← HW0.out]
  refine wp_region_calm (S := fun w' => Below W0.heap.size W0 w') (by kernel_rfl) 11 ?_
  refine takeF 0 4 (.agg #[.string f.name, .int .i64 f.params, .int .i64 f.regs, .slice fp f.blocks.length fc]) rfl rfl (Nat.le_refl _) (by kernel_rfl) (by kernel_rfl) (by kernel_rfl) (fun _ _ _ h => h) (Or.inl ⟨by rfl, fun w' h => ?_⟩) (Below.refl _ _).drew ?_
  · obtain ⟨h1, h2, h3, h4⟩ := HAll.out w' h
    go_simp
  refine takeF 1 5 (.agg #[.string f.name, .int .i64 f.params, .int .i64 f.regs, .slice fp f.blocks.length fc]) rfl rfl (Nat.le_refl _) (by kernel_rfl) (by kernel_rfl) (by kernel_rfl) (fun _ _ _ h => h) (Or.inl ⟨by rfl, fun w' h => ?_⟩) (Below.refl _ _).drew ?_
  · obtain ⟨h1, h2, h3, h4⟩ := HAll.out w' h
    go_simp
  refine takeF 3 7 (.agg #[.int .i64 (-1), .int .i64 (-1)]) rfl rfl (Nat.le_refl _) (by kernel_rfl) (by kernel_rfl) (by kernel_rfl) (fun _ _ _ h => h) (Or.inl ⟨by rfl, fun w' h => ?_⟩) (Below.refl _ _).drew ?_
  · obtain ⟨h1, h2, h3, h4⟩ := HAll.out w' h
    go_simp
  refine takeF 5 9 (.pointer (some ⟨w.heap.size, 2, none⟩)) rfl rfl (Nat.le_refl _) (by kernel_rfl) (by kernel_rfl) (by kernel_rfl) (fun _ _ _ h => h) (Or.inl ⟨by rfl, fun w' h => ?_⟩) (Below.refl _ _).drew ?_
  · obtain ⟨h1, h2, h3, h4⟩ := HAll.out w' h
    go_simp
  refine takeF 6 10 (.int .i64 f.regs) rfl rfl (Nat.le_refl _) (by kernel_rfl) (by kernel_rfl) (by kernel_rfl) (fun _ _ _ h => h) (Or.inl ⟨by rfl, fun w' h => ?_⟩) (Below.refl _ _).drew ?_
  · obtain ⟨h1, h2, h3, h4⟩ := HAll.out w' h
    go_simp
  refine stepZ_2 (i := 2) (j := 4) (by kernel_rfl) ?_ ?_
  · refine stepZ_callTo 6 rfl rfl rfl (by go_simp) (treeOf_any f fp fc W0.drew HS.out.toFunS (blksMono HF.out (HB0.out.trans ((Below.refl _ W0).drew.mono HB0.out.size)))) ?_
    rintro e w2 ⟨⟨U, rfl, hUz, hU⟩, hb2⟩
    have hb2' : Below W0.heap.size W0 w2 := (Below.refl _ W0).drew.trans hb2
    refine ⟨_, rfl, hb2', ?_⟩
    refine stepZ_1 (i := 4) (by kernel_rfl) (stepZ_to 8 (.slice (some ⟨w2.heap.size, 0, none⟩) 1 1) (w2.alloc (.cells #[.int .i64 (-1), .int .i64 (-1)] 122)) rfl rfl rfl (by go_simp) (hb2'.alloc hb2'.size _) ?_)
    obtain ⟨Sb, hSb⟩ : ∃ Sb, Sb = w2.heap.size := ⟨_, rfl⟩
    obtain ⟨W5, hW5⟩ : ∃ W5, W5 = w2.alloc (.cells #[.int .i64 (-1), .int .i64 (-1)] 122) := ⟨_, rfl⟩
    have hcom : W5.rowIs U 3 f.blocks.length (fun c => .int .i64 (treeU f c)) ∧ W5.cell? ⟨Sb, 0, none⟩ = some (.int .i64 (-1)) ∧ W5.cell? ⟨Sb, 1, none⟩ = some (.int .i64 (-1)) ∧ Below W0.heap.size W0 W5 := by
      rw [hW5, hSb]
      exact ⟨hU.alloc _, (blk (heap_here w2 _)).1 0, (blk (heap_here w2 _)).1 1, hb2'.alloc hb2'.size _⟩
    rw [← hW5, ← hSb]
    clear hW5 hSb hb2 hb2' hU
    obtain ⟨hUr, hS0, hS1, hb5⟩ := hcom
    have hrep := repeat_wr Sb 0 1 (-1) R W5 (by omega) (fun j hj => by
      rcases (show j = 0 ∨ j = 1 by omega) with rfl | rfl
      · exact hS0
      · exact hS1)
    rw [← HRg.out] at hrep
    refine stepZ_1 (i := 7) (by kernel_rfl) (stepZ_callTo 11 rfl rfl rfl (by go_simp) hrep ?_)
    clear hrep
    rintro e W6 ⟨rfl, hB, hb6⟩
    have hb06 : Below W0.heap.size W0 W6 := hb5.trans (hb6.mono hb5.size)
    refine ⟨_, rfl, hb06, ?_⟩
    refine stepZ_1 (i := 8) (by kernel_rfl) (stepZ_to 12 (.agg #[.string f.name, .int .i64 f.params, .int .i64 f.regs, .slice fp f.blocks.length fc, .slice (some ⟨U, 0, none⟩) f.blocks.length f.blocks.length, .slice (some ⟨W5.heap.size, 0, none⟩) R R]) W6 rfl rfl rfl (by go_simp) hb06 ?_)
    refine stepZ_1 (i := 9) (by kernel_rfl) (stepZ_to 13 (.pointer (some ⟨W6.heap.size, 0, none⟩)) (W6.alloc (.cells #[.string f.name, .int .i64 f.params, .int .i64 f.regs, .slice fp f.blocks.length fc, .slice (some ⟨U, 0, none⟩) f.blocks.length f.blocks.length, .slice (some ⟨W5.heap.size, 0, none⟩) R R] 124)) rfl rfl rfl (by go_simp) (hb06.alloc hb06.size _) ?_)
    refine stepZ_1 (i := 10) (by kernel_rfl) (stepZ_to 3 (.pointer (some ⟨W6.heap.size, 0, none⟩)) (W6.alloc (.cells #[.string f.name, .int .i64 f.params, .int .i64 f.regs, .slice fp f.blocks.length fc, .slice (some ⟨U, 0, none⟩) f.blocks.length f.blocks.length, .slice (some ⟨W5.heap.size, 0, none⟩) R R] 124)) rfl rfl rfl (by go_simp) (hb06.alloc hb06.size _) (wpAnyZ_done (by kernel_rfl) ?_ _))
    obtain ⟨Wc, hWc⟩ : ∃ Wc, Wc = W6.alloc (.cells #[.string f.name, .int .i64 f.params, .int .i64 f.regs, .slice fp f.blocks.length fc, .slice (some ⟨U, 0, none⟩) f.blocks.length f.blocks.length, .slice (some ⟨W5.heap.size, 0, none⟩) R R] 124) := ⟨_, rfl⟩
    rw [← hWc]
    have hbc : Below W6.heap.size W6 Wc := by rw [hWc]; exact (Below.refl _ _).alloc (Nat.le_refl _) _
    have hC : CkBox Wc W6.heap.size f fp fc U W5.heap.size := by rw [hWc]; unfold CkBox; rw [HRn.out]; exact heap_here W6 _
    have hBr : Wc.rowIs W5.heap.size 122 (f.regs.toNat * 2) (wrF wr0) := by
      rw [HRn.out]
      refine (hB.of_block (hbc.block _ hB.lt)).congr fun j _ => ?_
      unfold wrF wr0
      split <;> rfl
    have hUc : Wc.rowIs U 3 f.blocks.length (fun c => .int .i64 (treeU f c)) := (hUr.of_block (hb6.block U hUr.lt)).of_block (hbc.block U (by have := hUr.lt; have := hb6.size; omega))
    have hb0c : Below W0.heap.size W0 Wc := hb06.trans (hbc.mono hb06.size)
    have hW5z : W0.heap.size ≤ W5.heap.size := hb5.size
    have hz56 : W5.heap.size < W6.heap.size := hB.lt
    have hUz5 : U < W5.heap.size := hUr.lt
    have HC := hidI hC
    have HBr := hidI hBr
    have HUc := hidI hUc
    have HB0c := hidI hb0c
    clear hUr hS0 hS1 hb5 hB hb6 hb06 hbc hC hBr hUc hb0c hWc
    simp only [calm, Exit.then]
    go_simp
    go_wp2_with fail
    have hAc : ∀ W, Below Wc.heap.size Wc W → _ := fun W h => HAll.out W (HB0c.out.trans (h.mono HB0c.out.size))
    have HAc := hidI hAc
    clear hAc
    refine wp_region_calm (S := fun w' => Below Wc.heap.size Wc w') (by kernel_rfl) 8 ?_
    refine takeF 0 15 (.agg #[.string f.name, .int .i64 f.params, .int .i64 f.regs, .slice fp f.blocks.length fc]) rfl rfl (Nat.le_refl _) (by kernel_rfl) (by kernel_rfl) (by kernel_rfl) (fun _ _ _ h => h) (Or.inl ⟨by rfl, fun w' h => ?_⟩) (Below.refl _ _).drew ?_
    · obtain ⟨h1, h2, h3, h4⟩ := HAc.out w' h
      go_simp
    refine takeF 3 18 (.pointer (some ⟨w.heap.size, 3, none⟩)) rfl rfl (Nat.le_refl _) (by kernel_rfl) (by kernel_rfl) (by kernel_rfl) (fun _ _ _ h => h) (Or.inl ⟨by rfl, fun w' h => ?_⟩) (Below.refl _ _).drew ?_
    · obtain ⟨h1, h2, h3, h4⟩ := HAc.out w' h
      go_simp
    refine takeF 4 19 (.slice fp f.blocks.length fc) rfl rfl (Nat.le_refl _) (by kernel_rfl) (by kernel_rfl) (by kernel_rfl) (fun _ _ _ h => h) (Or.inl ⟨by rfl, fun w' h => ?_⟩) (Below.refl _ _).drew ?_
    · obtain ⟨h1, h2, h3, h4⟩ := HAc.out w' h
      go_simp
    refine takeF 5 20 (.int .i64 f.blocks.length) rfl rfl (Nat.le_refl _) (by kernel_rfl) (by kernel_rfl) (by kernel_rfl) (fun _ _ _ h => h) (Or.inl ⟨by rfl, fun w' h => ?_⟩) (Below.refl _ _).drew ?_
    · obtain ⟨h1, h2, h3, h4⟩ := HAc.out w' h
      go_simp
    refine stepZ_1 (i := 1) (by kernel_rfl) (stepZ_callTo 16 rfl rfl rfl (by go_simp) (post_any f fp fc Wc.drew n1 (by omega) HS.out.two HS.out.tosB (blksMono HF.out (HB0.out.trans ((HB0c.out.drew).mono HB0.out.size)))) ?_)
    rintro e W7 ⟨vp, rfl, hO, hb7⟩
    obtain ⟨pp, pc, rfl⟩ := own_slice hO
    have hb7' : Below Wc.heap.size Wc W7 := (Below.refl _ Wc).drew.trans hb7
    clear hO hb7
    refine ⟨_, rfl, hb7', ?_⟩
    obtain ⟨L, hL⟩ : ∃ L, L = (postL f.blocks).length := ⟨_, rfl⟩
    rw [← hL]
    have HL := hidI hL
    clear hL
    refine stepZ_1 (i := 2) (by kernel_rfl) (stepZ_to 17 (.int .i64 (L : Nat)) W7 rfl rfl rfl (by go_simp) hb7' ?_)
    refine stepZ_1 (i := 6) (by kernel_rfl) (stepZ_to 21 (.bool (decide (L < f.blocks.length))) W7 rfl rfl rfl (by go_simp) hb7' ?_)
    refine stepZ_1 (i := 7) (by kernel_rfl) (stepZ_to 14 (.bool (decide (L < f.blocks.length))) W7 rfl rfl rfl (by go_simp) hb7' (wpAnyZ_done (by kernel_rfl) ?_ _))
    simp only [calm, Exit.then]
    have hB7 : Below w.heap.size w W7 := HB0.out.trans ((HB0c.out.trans (hb7'.mono HB0c.out.size)).mono HB0.out.size)
    have hC7 := (hb7'.block _ (ltHeap HC.out)).trans HC.out
    have hR7 := HBr.out.of_block (hb7'.block _ HBr.out.lt)
    have hU7 := HUc.out.of_block (hb7'.block _ HUc.out.lt)
    have HC7 := hidI (show CkBox W7 W6.heap.size f fp fc U W5.heap.size from hC7)
    have HR7 := hidI hR7
    have HU7 := hidI hU7
    have HB7 := hidI hB7
    clear hb7' hB7 hC7 hR7 hU7
    by_cases hl : L < f.blocks.length
    · have hE : ssaE f = 5 := by unfold ssaE; rw [if_pos (by rw [← HL.out]; exact hl)]
      have HE := hidI hE
      rw [decide_eq_true hl]
      clear hE hl
      go_simp
      go_wp2_with fail
      go_ret
      exact ⟨by rw [HE.out]; rfl, HB7.out⟩
    · rw [decide_eq_false hl]
      have HE := hidI (show ssaE f = if (wrF' f).2 = false then 7 else if usesF (wrF' f).1 (treeU f) (plN (ordN f.blocks)) f = false then 6 else 0 from by unfold ssaE; rw [if_neg (by rw [← HL.out]; exact hl)])
      clear hl
      go_simp
      go_wp2_with fail
      refine (writes_any f fp fc W6.heap.size U W5.heap.size w W7 HS.out HF.out HB7.out (by have := HB0.out.size; omega) (by omega) HC7.out HR7.out).mono ?_
      rintro e W8 ⟨rfl, hR8, hK8⟩
      have hB8 : Below w.heap.size w W8 := HB7.out.trans (hK8.below HB7.out.size fun i hi => by have := HB0.out.size; omega)
      have HC8 := hidI (show CkBox W8 W6.heap.size f fp fc U W5.heap.size from (hK8.block _ (ltHeap HC7.out) (by omega)).trans HC7.out)
      have HU8 := hidI (HU7.out.of_block (hK8.block U HU7.out.lt (by omega)))
      have HR8 := hidI hR8
      have HB8 := hidI hB8
      clear hR8 hK8 hB8
      obtain ⟨wf, hwf⟩ : ∃ wf, wf = wrF' f := ⟨_, rfl⟩
      have HWo := hidI (show WrOk f.blocks.length wf.1 from by rw [hwf]; exact wrF_ok n1)
      rw [← hwf] at HE HR8 ⊢
      clear hwf
      obtain ⟨wb, ok⟩ := wf
      cases ok with
      | false =>
        go_wp2_with fail
        go_ret
        exact ⟨by rw [HE.out]; rfl, HB8.out⟩
      | true =>
        go_wp2_with fail
        refine (uses_any f fp fc W6.heap.size U W5.heap.size wb (treeU f) (plN (ordN f.blocks)) w W8 HS.out HF.out HB8.out HC8.out HR8.out HU8.out HS.out.treeU HWo.out).mono ?_
        rintro e W9 ⟨rfl, hb9⟩
        have HB9 := hidI (HB8.out.trans (hb9.mono HB8.out.size))
        clear hb9
        obtain ⟨r, hr⟩ : ∃ r, r = usesF wb (treeU f) (plN (ordN f.blocks)) f := ⟨_, rfl⟩
        rw [← hr]
        have HE2 := hidI (show ssaE f = if r = false then 6 else 0 from by rw [HE.out, hr]; rfl)
        clear hr HE
        cases r with
        | false =>
          go_wp2_with fail
          go_ret
          exact ⟨by rw [HE2.out]; rfl, HB9.out⟩
        | true =>
          go_wp2_with fail
          go_ret
          exact ⟨by rw [HE2.out]; rfl, HB9.out⟩
  · refine stepZ_to 8 (.slice (some ⟨W0.heap.size, 0, none⟩) 1 1) (W0.drew.alloc (.cells #[.int .i64 (-1), .int .i64 (-1)] 122)) rfl rfl rfl (by go_simp) ((Below.refl _ W0).drew.alloc (Nat.le_refl _) _) ?_
    obtain ⟨w2, hw2⟩ : ∃ w2, w2 = W0.drew.alloc (.cells #[.int .i64 (-1), .int .i64 (-1)] 122) := ⟨_, rfl⟩
    have hb2' : Below W0.heap.size W0 w2 := by rw [hw2]; exact (Below.refl _ W0).drew.alloc (Nat.le_refl _) _
    have hSb2 : w2.heap[W0.heap.size]? = some (.cells #[.int .i64 (-1), .int .i64 (-1)] 122 (0, 0)) := by rw [hw2]; exact heap_here W0.drew _
    rw [← hw2]
    clear hw2
    refine stepZ_1 (i := 2) (by kernel_rfl) ?_
    refine stepZ_callTo 6 rfl rfl rfl (by go_simp) (treeOf_any f fp fc w2 HS.out.toFunS (blksMono HF.out (HB0.out.trans (hb2'.mono HB0.out.size)))) ?_
    rintro e W5 ⟨⟨U, rfl, hUz, hU⟩, hb3⟩
    have hb5' : Below W0.heap.size W0 W5 := hb2'.trans (hb3.mono hb2'.size)
    refine ⟨_, rfl, hb5', ?_⟩
    have hcom : W5.rowIs U 3 f.blocks.length (fun c => .int .i64 (treeU f c)) ∧ W5.cell? ⟨W0.heap.size, 0, none⟩ = some (.int .i64 (-1)) ∧ W5.cell? ⟨W0.heap.size, 1, none⟩ = some (.int .i64 (-1)) ∧ Below W0.heap.size W0 W5 := by
      have h2 := (hb3.block _ (ltHeap hSb2)).trans hSb2
      exact ⟨hU, (blk h2).1 0, (blk h2).1 1, hb5'⟩
    clear hb2' hb3 hb5' hU hSb2
    obtain ⟨hUr, hS0, hS1, hb5⟩ := hcom
    have hrep := repeat_wr W0.heap.size 0 1 (-1) R W5 (by omega) (fun j hj => by
      rcases (show j = 0 ∨ j = 1 by omega) with rfl | rfl
      · exact hS0
      · exact hS1)
    rw [← HRg.out] at hrep
    refine stepZ_1 (i := 7) (by kernel_rfl) (stepZ_callTo 11 rfl rfl rfl (by go_simp) hrep ?_)
    clear hrep
    rintro e W6 ⟨rfl, hB, hb6⟩
    have hb06 : Below W0.heap.size W0 W6 := hb5.trans (hb6.mono hb5.size)
    refine ⟨_, rfl, hb06, ?_⟩
    refine stepZ_1 (i := 8) (by kernel_rfl) (stepZ_to 12 (.agg #[.string f.name, .int .i64 f.params, .int .i64 f.regs, .slice fp f.blocks.length fc, .slice (some ⟨U, 0, none⟩) f.blocks.length f.blocks.length, .slice (some ⟨W5.heap.size, 0, none⟩) R R]) W6 rfl rfl rfl (by go_simp) hb06 ?_)
    refine stepZ_1 (i := 9) (by kernel_rfl) (stepZ_to 13 (.pointer (some ⟨W6.heap.size, 0, none⟩)) (W6.alloc (.cells #[.string f.name, .int .i64 f.params, .int .i64 f.regs, .slice fp f.blocks.length fc, .slice (some ⟨U, 0, none⟩) f.blocks.length f.blocks.length, .slice (some ⟨W5.heap.size, 0, none⟩) R R] 124)) rfl rfl rfl (by go_simp) (hb06.alloc hb06.size _) ?_)
    refine stepZ_1 (i := 10) (by kernel_rfl) (stepZ_to 3 (.pointer (some ⟨W6.heap.size, 0, none⟩)) (W6.alloc (.cells #[.string f.name, .int .i64 f.params, .int .i64 f.regs, .slice fp f.blocks.length fc, .slice (some ⟨U, 0, none⟩) f.blocks.length f.blocks.length, .slice (some ⟨W5.heap.size, 0, none⟩) R R] 124)) rfl rfl rfl (by go_simp) (hb06.alloc hb06.size _) (wpAnyZ_done (by kernel_rfl) ?_ _))
    obtain ⟨Wc, hWc⟩ : ∃ Wc, Wc = W6.alloc (.cells #[.string f.name, .int .i64 f.params, .int .i64 f.regs, .slice fp f.blocks.length fc, .slice (some ⟨U, 0, none⟩) f.blocks.length f.blocks.length, .slice (some ⟨W5.heap.size, 0, none⟩) R R] 124) := ⟨_, rfl⟩
    rw [← hWc]
    have hbc : Below W6.heap.size W6 Wc := by rw [hWc]; exact (Below.refl _ _).alloc (Nat.le_refl _) _
    have hC : CkBox Wc W6.heap.size f fp fc U W5.heap.size := by rw [hWc]; unfold CkBox; rw [HRn.out]; exact heap_here W6 _
    have hBr : Wc.rowIs W5.heap.size 122 (f.regs.toNat * 2) (wrF wr0) := by
      rw [HRn.out]
      refine (hB.of_block (hbc.block _ hB.lt)).congr fun j _ => ?_
      unfold wrF wr0
      split <;> rfl
    have hUc : Wc.rowIs U 3 f.blocks.length (fun c => .int .i64 (treeU f c)) := (hUr.of_block (hb6.block U hUr.lt)).of_block (hbc.block U (by have := hUr.lt; have := hb6.size; omega))
    have hb0c : Below W0.heap.size W0 Wc := hb06.trans (hbc.mono hb06.size)
    have hW5z : W0.heap.size ≤ W5.heap.size := hb5.size
    have hz56 : W5.heap.size < W6.heap.size := hB.lt
    have hUz5 : U < W5.heap.size := hUr.lt
    have HC := hidI hC
    have HBr := hidI hBr
    have HUc := hidI hUc
    have HB0c := hidI hb0c
    clear hUr hS0 hS1 hb5 hB hb6 hb06 hbc hC hBr hUc hb0c hWc
    simp only [calm, Exit.then]
    go_simp
    go_wp2_with fail
    have hAc : ∀ W, Below Wc.heap.size Wc W → _ := fun W h => HAll.out W (HB0c.out.trans (h.mono HB0c.out.size))
    have HAc := hidI hAc
    clear hAc
    refine wp_region_calm (S := fun w' => Below Wc.heap.size Wc w') (by kernel_rfl) 8 ?_
    refine takeF 0 15 (.agg #[.string f.name, .int .i64 f.params, .int .i64 f.regs, .slice fp f.blocks.length fc]) rfl rfl (Nat.le_refl _) (by kernel_rfl) (by kernel_rfl) (by kernel_rfl) (fun _ _ _ h => h) (Or.inl ⟨by rfl, fun w' h => ?_⟩) (Below.refl _ _).drew ?_
    · obtain ⟨h1, h2, h3, h4⟩ := HAc.out w' h
      go_simp
    refine takeF 3 18 (.pointer (some ⟨w.heap.size, 3, none⟩)) rfl rfl (Nat.le_refl _) (by kernel_rfl) (by kernel_rfl) (by kernel_rfl) (fun _ _ _ h => h) (Or.inl ⟨by rfl, fun w' h => ?_⟩) (Below.refl _ _).drew ?_
    · obtain ⟨h1, h2, h3, h4⟩ := HAc.out w' h
      go_simp
    refine takeF 4 19 (.slice fp f.blocks.length fc) rfl rfl (Nat.le_refl _) (by kernel_rfl) (by kernel_rfl) (by kernel_rfl) (fun _ _ _ h => h) (Or.inl ⟨by rfl, fun w' h => ?_⟩) (Below.refl _ _).drew ?_
    · obtain ⟨h1, h2, h3, h4⟩ := HAc.out w' h
      go_simp
    refine takeF 5 20 (.int .i64 f.blocks.length) rfl rfl (Nat.le_refl _) (by kernel_rfl) (by kernel_rfl) (by kernel_rfl) (fun _ _ _ h => h) (Or.inl ⟨by rfl, fun w' h => ?_⟩) (Below.refl _ _).drew ?_
    · obtain ⟨h1, h2, h3, h4⟩ := HAc.out w' h
      go_simp
    refine stepZ_1 (i := 1) (by kernel_rfl) (stepZ_callTo 16 rfl rfl rfl (by go_simp) (post_any f fp fc Wc.drew n1 (by omega) HS.out.two HS.out.tosB (blksMono HF.out (HB0.out.trans ((HB0c.out.drew).mono HB0.out.size)))) ?_)
    rintro e W7 ⟨vp, rfl, hO, hb7⟩
    obtain ⟨pp, pc, rfl⟩ := own_slice hO
    have hb7' : Below Wc.heap.size Wc W7 := (Below.refl _ Wc).drew.trans hb7
    clear hO hb7
    refine ⟨_, rfl, hb7', ?_⟩
    obtain ⟨L, hL⟩ : ∃ L, L = (postL f.blocks).length := ⟨_, rfl⟩
    rw [← hL]
    have HL := hidI hL
    clear hL
    refine stepZ_1 (i := 2) (by kernel_rfl) (stepZ_to 17 (.int .i64 (L : Nat)) W7 rfl rfl rfl (by go_simp) hb7' ?_)
    refine stepZ_1 (i := 6) (by kernel_rfl) (stepZ_to 21 (.bool (decide (L < f.blocks.length))) W7 rfl rfl rfl (by go_simp) hb7' ?_)
    refine stepZ_1 (i := 7) (by kernel_rfl) (stepZ_to 14 (.bool (decide (L < f.blocks.length))) W7 rfl rfl rfl (by go_simp) hb7' (wpAnyZ_done (by kernel_rfl) ?_ _))
    simp only [calm, Exit.then]
    have hB7 : Below w.heap.size w W7 := HB0.out.trans ((HB0c.out.trans (hb7'.mono HB0c.out.size)).mono HB0.out.size)
    have hC7 := (hb7'.block _ (ltHeap HC.out)).trans HC.out
    have hR7 := HBr.out.of_block (hb7'.block _ HBr.out.lt)
    have hU7 := HUc.out.of_block (hb7'.block _ HUc.out.lt)
    have HC7 := hidI (show CkBox W7 W6.heap.size f fp fc U W5.heap.size from hC7)
    have HR7 := hidI hR7
    have HU7 := hidI hU7
    have HB7 := hidI hB7
    clear hb7' hB7 hC7 hR7 hU7
    by_cases hl : L < f.blocks.length
    · have hE : ssaE f = 5 := by unfold ssaE; rw [if_pos (by rw [← HL.out]; exact hl)]
      have HE := hidI hE
      rw [decide_eq_true hl]
      clear hE hl
      go_simp
      go_wp2_with fail
      go_ret
      exact ⟨by rw [HE.out]; rfl, HB7.out⟩
    · rw [decide_eq_false hl]
      have HE := hidI (show ssaE f = if (wrF' f).2 = false then 7 else if usesF (wrF' f).1 (treeU f) (plN (ordN f.blocks)) f = false then 6 else 0 from by unfold ssaE; rw [if_neg (by rw [← HL.out]; exact hl)])
      clear hl
      go_simp
      go_wp2_with fail
      refine (writes_any f fp fc W6.heap.size U W5.heap.size w W7 HS.out HF.out HB7.out (by have := HB0.out.size; omega) (by omega) HC7.out HR7.out).mono ?_
      rintro e W8 ⟨rfl, hR8, hK8⟩
      have hB8 : Below w.heap.size w W8 := HB7.out.trans (hK8.below HB7.out.size fun i hi => by have := HB0.out.size; omega)
      have HC8 := hidI (show CkBox W8 W6.heap.size f fp fc U W5.heap.size from (hK8.block _ (ltHeap HC7.out) (by omega)).trans HC7.out)
      have HU8 := hidI (HU7.out.of_block (hK8.block U HU7.out.lt (by omega)))
      have HR8 := hidI hR8
      have HB8 := hidI hB8
      clear hR8 hK8 hB8
      obtain ⟨wf, hwf⟩ : ∃ wf, wf = wrF' f := ⟨_, rfl⟩
      have HWo := hidI (show WrOk f.blocks.length wf.1 from by rw [hwf]; exact wrF_ok n1)
      rw [← hwf] at HE HR8 ⊢
      clear hwf
      obtain ⟨wb, ok⟩ := wf
      cases ok with
      | false =>
        go_wp2_with fail
        go_ret
        exact ⟨by rw [HE.out]; rfl, HB8.out⟩
      | true =>
        go_wp2_with fail
        refine (uses_any f fp fc W6.heap.size U W5.heap.size wb (treeU f) (plN (ordN f.blocks)) w W8 HS.out HF.out HB8.out HC8.out HR8.out HU8.out HS.out.treeU HWo.out).mono ?_
        rintro e W9 ⟨rfl, hb9⟩
        have HB9 := hidI (HB8.out.trans (hb9.mono HB8.out.size))
        clear hb9
        obtain ⟨r, hr⟩ : ∃ r, r = usesF wb (treeU f) (plN (ordN f.blocks)) f := ⟨_, rfl⟩
        rw [← hr]
        have HE2 := hidI (show ssaE f = if r = false then 6 else 0 from by rw [HE.out, hr]; rfl)
        clear hr HE
        cases r with
        | false =>
          go_wp2_with fail
          go_ret
          exact ⟨by rw [HE2.out]; rfl, HB9.out⟩
        | true =>
          go_wp2_with fail
          go_ret
          exact ⟨by rw [HE2.out]; rfl, HB9.out⟩
end Go.Proofs.YtdjamkinijhjoaaDoor
namespace Go.Proofs.YtdjamkinijhjoaaDoor
open Go.RowKit Go.Shelf

def ssaI (u : UniL) (i : Nat) : Int := match u.funcs[i]? with | some f => ssaE f | none => 0
/-- what is wrong with a unit in static single assignment -/
def ssaU (u : UniL) : Int × Int := if (chk u).1 = 0 then (match firstAt u.funcs.length (ssaI u) with | some r => r | none => (0, 0)) else chk u
theorem ssaI_at {u : UniL} {k : Nat} (h : k < u.funcs.length) : ssaI u k = ssaE u.funcs[k] := by unfold ssaI; rw [List.getElem?_eq_getElem h]

set_option maxRecDepth 100000 in
set_option maxHeartbeats 4000000 in
theorem ssaCheck_any (u : UniL) (gp fp : Option Addr) (gc fc : Nat) (w : World) (hgl : u.globals.length * 48 ≤ 140737488351232) (hG : SliceAt w 3 (GloR w) gp u.globals) (hfl : u.funcs.length * 56 ≤ 140737488351232) (hF : SliceAt w 4 (FunR w) fp u.funcs) (hways : Ways w) :
    Calls Tryd.prog 10 #[.agg #[.slice gp u.globals.length gc, .slice fp u.funcs.length fc]] w fun e w' => e = .returned (.agg #[.int .i64 (ssaU u).1, .int .i64 (ssaU u).2]) ∧ Below w.heap.size w w' := by
  have HG := hidI hG
  have HF := hidI hF
  have HW := hidI hways
  have hq : ∀ w, (binOp .neq 28 (.agg #[.int .i64 (chk u).1, .int .i64 (chk u).2]) (.agg #[.int .i64 0, .int .i64 0])).run Tryd.prog w = .ok (.bool (!((chk u).1 == 0 && (chk u).2 == 0))) w := fun w => by rw [run_neFault]
  clear hG hF hways
  by_cases hc : (chk u).1 = 0
  · obtain ⟨h00, hok⟩ := chk_ok hc
    have h2 : (chk u).2 = 0 := by rw [h00]
    have hSu : ssaU u = (match firstAt u.funcs.length (ssaI u) with | some r => r | none => (0, 0)) := by unfold ssaU; rw [if_pos hc]
    have hq' : ∀ w, (binOp .neq 28 (.agg #[.int .i64 (chk u).1, .int .i64 (chk u).2]) (.agg #[.int .i64 0, .int .i64 0])).run Tryd.prog w = .ok (.bool false) w := fun w => by rw [run_neFault, hc, h2]; rfl
    have hnf := hok.nf
    have HOk := hidI hok
    have HSu := hidI hSu
    clear h00 hok hSu hc h2 hq
    go_enter Tryd.func10, Tryd.ntmps10
    go_wp2_with fail
    refine (check_any u _ _ _ _ _ hgl (glosMono HG.out (by repeat (first | with_reducible exact Below.refl _ _ | with_reducible exact HB3.out | with_reducible refine Below.drew ?_ | with_reducible refine below_drewN ?_ _ | with_reducible refine Below.setCell ?_ ?_ _ | with_reducible refine Below.alloc ?_ ?_ _ | with_reducible exact HB2.out | with_reducible exact HB1.out | with_reducible refine Below.trans ?_ (Below.mono hb3 ?_) | with_reducible refine Below.trans ?_ (Below.mono hb5 ?_) | with_reducible refine Below.trans ?_ (Below.mono hb4 ?_) | omega | (simp; omega) | simp))) hfl (funsMono HF.out (by repeat (first | with_reducible exact Below.refl _ _ | with_reducible exact HB3.out | with_reducible refine Below.drew ?_ | with_reducible refine below_drewN ?_ _ | with_reducible refine Below.setCell ?_ ?_ _ | with_reducible refine Below.alloc ?_ ?_ _ | with_reducible exact HB2.out | with_reducible exact HB1.out | with_reducible refine Below.trans ?_ (Below.mono hb3 ?_) | with_reducible refine Below.trans ?_ (Below.mono hb5 ?_) | with_reducible refine Below.trans ?_ (Below.mono hb4 ?_) | omega | (simp; omega) | simp))) (HW.out.below (by repeat (first | with_reducible exact Below.refl _ _ | with_reducible exact HB3.out | with_reducible refine Below.drew ?_ | with_reducible refine below_drewN ?_ _ | with_reducible refine Below.setCell ?_ ?_ _ | with_reducible refine Below.alloc ?_ ?_ _ | with_reducible exact HB2.out | with_reducible exact HB1.out | with_reducible refine Below.trans ?_ (Below.mono hb3 ?_) | with_reducible refine Below.trans ?_ (Below.mono hb5 ?_) | with_reducible refine Below.trans ?_ (Below.mono hb4 ?_) | omega | (simp; omega) | simp)))).mono ?_
    rintro e w1 ⟨rfl, hb1⟩
    have HB1 : Hid (Below w.heap.size w w1) := Below.trans (by repeat (first | with_reducible exact Below.refl _ _ | with_reducible exact HB3.out | with_reducible refine Below.drew ?_ | with_reducible refine below_drewN ?_ _ | with_reducible refine Below.setCell ?_ ?_ _ | with_reducible refine Below.alloc ?_ ?_ _ | with_reducible exact HB2.out | with_reducible exact HB1.out | with_reducible refine Below.trans ?_ (Below.mono hb3 ?_) | with_reducible refine Below.trans ?_ (Below.mono hb5 ?_) | with_reducible refine Below.trans ?_ (Below.mono hb4 ?_) | omega | (simp; omega) | simp)) (hb1.mono (by simp; omega))
    have hR := heap_below hb1 (k := w.heap.size + 1) (by simp) (heap_at (w := w.alloc (.cells #[.slice gp u.globals.length gc, .slice fp u.funcs.length fc] 25)) (o := .cells #[.int .i64 0, .int .i64 0] 28) (by simp))
    have hU := heap_below hb1 (k := w.heap.size) (by simp; omega) (heap_step (heap_at (w := w) (o := .cells #[.slice gp u.globals.length gc, .slice fp u.funcs.length fc] 25) rfl))
    have u1 : w1.cell? ⟨w.heap.size, 1, none⟩ = some (.slice fp u.funcs.length fc) := (blk hU).1 1
    have zu := ltHeap hU
    have HR := hidI hR
    have z1 := ltHeap hR
    clear hb1 hR hU
    go_wp2_with fail
    clear u1 hq'
    obtain ⟨W2, hW2⟩ : ∃ W2, W2 = w1.alloc (.cells #[.int .i64 (chk u).1, .int .i64 (chk u).2] 28) := ⟨_, rfl⟩
    rw [← hW2]
    have HB2 : Hid (Below w.heap.size w W2) := hidI (by rw [hW2]; exact HB1.out.alloc HB1.out.size _)
    have HR2 : Hid (W2.heap[w.heap.size + 1]? = some (.cells #[.int .i64 0, .int .i64 0] 28 (0, 0))) := hidI (by rw [hW2]; exact heap_step HR.out)
    clear hW2 HR
    go_loopg [16] u.funcs.length (fun q s16 wr => ∃ k : Nat, k ≤ u.funcs.length ∧ q = u.funcs.length - k ∧ s16 = .int .i64 k ∧ (∀ i, i < k → ssaI u i = 0) ∧ Below W2.heap.size W2 wr)
    case atStart => exact ⟨0, by omega, rfl, rfl, (fun i h => by omega), Below.refl _ _⟩
    case round =>
      obtain ⟨k, hk, rfl, rfl, hz, hb⟩ := hrel
      have HZ := hidI hz
      have HB := hidI hb
      have hBw : Below w.heap.size w wr := HB2.out.trans (hb.mono HB2.out.size)
      have HBw := hidI hBw
      have hRr := (hb.block _ (ltHeap HR2.out)).trans HR2.out
      have HRr := hidI hRr
      obtain ⟨hcc, hcf⟩ := blk hRr
      have zr := ltHeap hRr
      clear hz hb hBw hRr
      by_cases hlt : k < u.funcs.length
      · obtain ⟨b2, o2, q, c, hp, e0, e1, e2, e3, _, _, _, hbl, hbs⟩ := funGet HF.out HBw.out hlt
        subst hp
        have hb2 := lt_of_cell e0
        have hR' := HOk.out.funR hlt
        have hI := ssaI_at hlt
        obtain ⟨W3, hW3⟩ : ∃ W3, W3 = wr.alloc (.cells #[.string u.funcs[k].name, .int .i64 u.funcs[k].params, .int .i64 u.funcs[k].regs, .slice q u.funcs[k].blocks.length c] 37) := ⟨_, rfl⟩
        have hbw3 : Below wr.heap.size wr W3 := by rw [hW3]; repeat (first | with_reducible exact Below.refl _ _ | with_reducible exact HB3.out | with_reducible refine Below.drew ?_ | with_reducible refine below_drewN ?_ _ | with_reducible refine Below.setCell ?_ ?_ _ | with_reducible refine Below.alloc ?_ ?_ _ | with_reducible exact HB2.out | with_reducible exact HB1.out | with_reducible refine Below.trans ?_ (Below.mono hb3 ?_) | with_reducible refine Below.trans ?_ (Below.mono hb5 ?_) | with_reducible refine Below.trans ?_ (Below.mono hb4 ?_) | omega | (simp; omega) | simp)
        have hCk := checkOf_any u.funcs[k] q c W3 hR' (blksMono hbs hbw3)
        rw [← hI] at hCk
        rw [hW3] at hCk
        generalize u.funcs[k] = f at *
        have HCk := hidI hCk
        have HI := hidI hI
        clear hCk hI hbw3 hbs hR' hW3
        go_wp2_with fail
        refine HCk.out.mono ?_
        rintro e w4 ⟨rfl, hb4⟩
        have hb4' : Below wr.heap.size wr w4 := Below.trans (by repeat (first | with_reducible exact Below.refl _ _ | with_reducible exact HB3.out | with_reducible refine Below.drew ?_ | with_reducible refine below_drewN ?_ _ | with_reducible refine Below.setCell ?_ ?_ _ | with_reducible refine Below.alloc ?_ ?_ _ | with_reducible exact HB2.out | with_reducible exact HB1.out | with_reducible refine Below.trans ?_ (Below.mono hb3 ?_) | with_reducible refine Below.trans ?_ (Below.mono hb5 ?_) | with_reducible refine Below.trans ?_ (Below.mono hb4 ?_) | omega | (simp; omega) | simp)) (hb4.mono (by simp))
        have hR4 := (hb4'.block _ (ltHeap HRr.out)).trans HRr.out
        obtain ⟨hcc4, hcf4⟩ := blk hR4
        have zr4 := ltHeap hR4
        have HB4 := hidI (HBw.out.trans (hb4'.mono HBw.out.size))
        have HB42 := hidI (HB.out.trans (hb4'.mono HB.out.size))
        clear hb4 hb4' hR4
        obtain ⟨r, hr⟩ : ∃ r, r = ssaI u k := ⟨_, rfl⟩
        rw [← hr]
        have HRk := hidI hr
        clear hr
        by_cases h0 : r = 0
        · subst h0
          go_wp2_with fail
          go_roundg (u.funcs.length - (k + 1))
          case measure => omega
          case rel => exact ⟨k + 1, by omega, rfl, by go_num, (fun i hi => by
            rcases Nat.lt_or_ge i k with g | g
            · exact HZ.out i g
            · obtain rfl : i = k := by omega
              exact HRk.out.symm), HB42.out⟩
        · have HU := hidI (show ssaU u = (r, (k : Int)) from by
            rw [HSu.out, firstAt_hit hlt HZ.out (by rw [← HRk.out]; exact h0), ← HRk.out])
          go_wp2_with (go_at_call 24; refine (cfault_any _ _ _).mono ?_; rintro e w5 ⟨rfl, rfl⟩)
          refine bodyPost_ret (v := .agg #[.int .i64 (ssaU u).1, .int .i64 (ssaU u).2]) ?_ rfl ⟨rfl, ?_⟩
          · rw [HU.out]
            simp [results, Tryd.results10, go_sem, *]
          · have := HB4.out.size
            repeat (first | with_reducible exact HB4.out | with_reducible refine Below.setCell ?_ ?_ _ | with_reducible refine Below.alloc ?_ ?_ _ | omega | (simp; omega) | simp)
      · obtain rfl : k = u.funcs.length := by omega
        have HU := hidI (show ssaU u = (0, 0) from by rw [HSu.out, firstAt_none HZ.out])
        go_wp2_with fail
        refine bodyPost_ret (v := .agg #[.int .i64 (ssaU u).1, .int .i64 (ssaU u).2]) ?_ rfl ⟨rfl, ?_⟩
        · rw [HU.out]
          simp [results, Tryd.results10, go_sem, *]
        · have := HBw.out.size
          repeat (first | with_reducible exact HBw.out | with_reducible refine Below.setCell ?_ ?_ _ | with_reducible refine Below.alloc ?_ ?_ _ | omega | (simp; omega) | simp)
  · have hS : ssaU u = chk u := by unfold ssaU; rw [if_neg hc]
    have hne : ((chk u).1 == 0 && (chk u).2 == 0) = false := by simp [hc]
    rw [hne] at hq
    have HS := hidI hS
    rw [hS]
    clear hS hne hc
    go_enter Tryd.func10, Tryd.ntmps10
    go_wp2_with fail
    refine (check_any u _ _ _ _ _ hgl (glosMono HG.out (by repeat (first | with_reducible exact Below.refl _ _ | with_reducible exact HB3.out | with_reducible refine Below.drew ?_ | with_reducible refine below_drewN ?_ _ | with_reducible refine Below.setCell ?_ ?_ _ | with_reducible refine Below.alloc ?_ ?_ _ | with_reducible exact HB2.out | with_reducible exact HB1.out | with_reducible refine Below.trans ?_ (Below.mono hb3 ?_) | with_reducible refine Below.trans ?_ (Below.mono hb5 ?_) | with_reducible refine Below.trans ?_ (Below.mono hb4 ?_) | omega | (simp; omega) | simp))) hfl (funsMono HF.out (by repeat (first | with_reducible exact Below.refl _ _ | with_reducible exact HB3.out | with_reducible refine Below.drew ?_ | with_reducible refine below_drewN ?_ _ | with_reducible refine Below.setCell ?_ ?_ _ | with_reducible refine Below.alloc ?_ ?_ _ | with_reducible exact HB2.out | with_reducible exact HB1.out | with_reducible refine Below.trans ?_ (Below.mono hb3 ?_) | with_reducible refine Below.trans ?_ (Below.mono hb5 ?_) | with_reducible refine Below.trans ?_ (Below.mono hb4 ?_) | omega | (simp; omega) | simp))) (HW.out.below (by repeat (first | with_reducible exact Below.refl _ _ | with_reducible exact HB3.out | with_reducible refine Below.drew ?_ | with_reducible refine below_drewN ?_ _ | with_reducible refine Below.setCell ?_ ?_ _ | with_reducible refine Below.alloc ?_ ?_ _ | with_reducible exact HB2.out | with_reducible exact HB1.out | with_reducible refine Below.trans ?_ (Below.mono hb3 ?_) | with_reducible refine Below.trans ?_ (Below.mono hb5 ?_) | with_reducible refine Below.trans ?_ (Below.mono hb4 ?_) | omega | (simp; omega) | simp)))).mono ?_
    rintro e w1 ⟨rfl, hb1⟩
    have HB1 : Hid (Below w.heap.size w w1) := Below.trans (by repeat (first | with_reducible exact Below.refl _ _ | with_reducible exact HB3.out | with_reducible refine Below.drew ?_ | with_reducible refine below_drewN ?_ _ | with_reducible refine Below.setCell ?_ ?_ _ | with_reducible refine Below.alloc ?_ ?_ _ | with_reducible exact HB2.out | with_reducible exact HB1.out | with_reducible refine Below.trans ?_ (Below.mono hb3 ?_) | with_reducible refine Below.trans ?_ (Below.mono hb5 ?_) | with_reducible refine Below.trans ?_ (Below.mono hb4 ?_) | omega | (simp; omega) | simp)) (hb1.mono (by simp; omega))
    have hR := heap_below hb1 (k := w.heap.size + 1) (by simp) (heap_at (w := w.alloc (.cells #[.slice gp u.globals.length gc, .slice fp u.funcs.length fc] 25)) (o := .cells #[.int .i64 0, .int .i64 0] 28) (by simp))
    obtain ⟨hcc, hcf⟩ := blk hR
    have z1 := ltHeap hR
    have z11 : w.heap.size + 1 < w1.heap.size + 1 := by omega
    clear hb1
    go_wp2_with fail
    refine bodyPost_ret (v := .agg #[.int .i64 (chk u).1, .int .i64 (chk u).2]) ?_ rfl ⟨rfl, ?_⟩
    · simp [results, Tryd.results10, go_sem, *]
    · repeat (first | with_reducible exact Below.refl _ _ | with_reducible exact HB3.out | with_reducible refine Below.drew ?_ | with_reducible refine below_drewN ?_ _ | with_reducible refine Below.setCell ?_ ?_ _ | with_reducible refine Below.alloc ?_ ?_ _ | with_reducible exact HB2.out | with_reducible exact HB1.out | with_reducible refine Below.trans ?_ (Below.mono hb3 ?_) | with_reducible refine Below.trans ?_ (Below.mono hb5 ?_) | with_reducible refine Below.trans ?_ (Below.mono hb4 ?_) | omega | (simp; omega) | simp)
end Go.Proofs.YtdjamkinijhjoaaDoor
