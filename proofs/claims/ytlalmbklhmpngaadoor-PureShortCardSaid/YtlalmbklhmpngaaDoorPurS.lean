/-
  PureShort: the walk of the law.
-/
import Derived.Test.YtlalmbklhmpngaaDoorPurQ
import Derived.Deep.RegionHeld3
import Derived.Deep.RegionWith
import Derived.BigQuiet
import Derived.Deep.QuietTactic
import Derived.WalkKit
import Derived.WalkSpells
import Derived.WalkLawsBesides
namespace Go.Proofs.YtlalmbklhmpngaaDoor
open Go.RowKit

theorem takeV {P : Program} {ops : Array Oper} {Q : Exit → Act → World → Prop} {md : Region.Mode} {S : World → Prop} (i d : Nat) (v : Value) {oi : Oper} {fuel : Nat} {listed : Array Bool} {a : Act} {w : World} (hi : ops[i]? = some oi) (hd : oi.dst = some d)
    (hs : Region.noSelect ops = true) (hf : Region.free md ops listed i = true) (hr : (Region.ready md ops listed).contains i = true)
    (hQ : ∀ c a w, Q (.panic c) (a.put (some d) v) w → Q (.panic c) a w) (hy : YieldsIf P ops S oi v a) (hS : S w)
    (h : wpAnyH P md ops Q S fuel (listed.setIfInBounds i true) (a.put (some d) v) w) : wpAnyH P md ops Q S (fuel + 1) listed a w :=
  wpAnyH_take hi hs hf hr (by rw [hd]; exact hQ) hy hS (by rw [hd]; exact h)
theorem and_two (b : Nat → Bool) : bits .and .i64 (maskI b) 96 = 0 ↔ b 5 = false ∧ b 6 = false := by
  rw [← bit56, and_mask, ← mask_zero, maskI_eq]
  constructor
  · intro h
    have h5 := h 5 (by omega)
    have h6 := h 6 (by omega)
    exact ⟨by simpa [bitB] using h5, by simpa [bitB] using h6⟩
  · intro h i _
    by_cases e : i = 5
    · subst e; simp [h.1]
    · by_cases e2 : i = 6
      · subst e2; simp [h.2]
      · simp [bitB, e, e2]
set_option maxRecDepth 100000 in
set_option maxHeartbeats 4000000 in
theorem short_un {u : UniL} {gp fp : Option Addr} {gc fc : Nat} {w : World} (hUn : UnA u gp fp w) (inp : List Int) (lp : Option Addr) (lc : Nat) (hI : SliceAt w 1 IntR lp inp) (hic : inp.length ≤ lc) (hip : lp = none → lc = 0) :
    Calls Tryd.prog 14 #[.agg #[.slice gp u.globals.length gc, .slice fp u.funcs.length fc], .slice lp inp.length lc] w fun e w' => e = .returned (.bool true) ∧ Below w.heap.size w w' := by
  have HUn := hidI hUn
  have HI := hidI hI
  have hmo := fun W hb => mainOf_any u.funcs gp fp u.globals.length gc fc W (by have := hUn.fl; omega) (funsMono hUn.fns hb)
  have HMo := hidI hmo
  clear hUn hI hmo
  go_enter Tryd.func14, Tryd.ntmps14
  go_wp2_with fail
  refine (told_any (HUn.out.ways.below (by repeat (first | with_reducible exact Below.refl _ _ | with_reducible exact HB3.out | with_reducible refine Below.drew ?_ | with_reducible refine below_drewN ?_ _ | with_reducible refine Below.setCell ?_ ?_ _ | with_reducible refine Below.alloc ?_ ?_ _ | with_reducible exact HB2.out | with_reducible exact HB1.out | with_reducible refine Below.trans ?_ (Below.mono hb3 ?_) | with_reducible refine Below.trans ?_ (Below.mono hb5 ?_) | with_reducible refine Below.trans ?_ (Below.mono hb4 ?_) | omega | (simp; omega) | simp)))).mono ?_
  rintro e w2 ⟨rfl, hb2⟩
  have HB1 : Hid (Below w.heap.size w w2) := Below.trans (by repeat (first | with_reducible exact Below.refl _ _ | with_reducible exact HB3.out | with_reducible refine Below.drew ?_ | with_reducible refine below_drewN ?_ _ | with_reducible refine Below.setCell ?_ ?_ _ | with_reducible refine Below.alloc ?_ ?_ _ | with_reducible exact HB2.out | with_reducible exact HB1.out | with_reducible refine Below.trans ?_ (Below.mono hb3 ?_) | with_reducible refine Below.trans ?_ (Below.mono hb5 ?_) | with_reducible refine Below.trans ?_ (Below.mono hb4 ?_) | omega | (simp; omega) | simp)) (hb2.mono (by first | (simp; done) | (simp; omega)))
  obtain ⟨hcu, _⟩ := blk (heap_below hb2 (k := w.heap.size) (by first | (simp; done) | (simp; omega)) (heap_here w _))
  have z2 : w.heap.size < w2.heap.size := by have := hb2.size; simp at this; omega
  clear hb2
  go_wp2_with fail
  refine (pmain_any (HUn.out.mono HB1.out)).mono ?_
  rintro e w3 ⟨rfl, hb3⟩
  have HB2 : Hid (Below w.heap.size w w3) := HB1.out.trans (hb3.mono HB1.out.size)
  replace hcu := fun o => (hb3.cell (p := ⟨w.heap.size, o, none⟩) z2).trans (hcu o)
  have z3 : w.heap.size < w3.heap.size := by have := hb3.size; omega
  clear hb3
  go_wp2_with fail
  refine (HMo.out _ HB2.out).mono ?_
  rintro e w4 ⟨rfl, hb4⟩
  have HB3 : Hid (Below w.heap.size w w4) := HB2.out.trans (hb4.mono HB2.out.size)
  replace hcu := fun o => (hb4.cell (p := ⟨w.heap.size, o, none⟩) z3).trans (hcu o)
  have z4 : w.heap.size < w4.heap.size := by have := hb4.size; omega
  clear hb4
  by_cases hneg : mainM u < 0
  · have hn : decide (mainM u < 0) = true := by rw [decide_eq_true_iff]; exact hneg
    clear hneg
    go_wp2_with fail
    go_ret
    refine ⟨rfl, ?_⟩
    have HB1 := HB3
    repeat (first | with_reducible exact Below.refl _ _ | with_reducible exact HB3.out | with_reducible refine Below.drew ?_ | with_reducible refine below_drewN ?_ _ | with_reducible refine Below.setCell ?_ ?_ _ | with_reducible refine Below.alloc ?_ ?_ _ | with_reducible exact HB2.out | with_reducible exact HB1.out | with_reducible refine Below.trans ?_ (Below.mono hb3 ?_) | with_reducible refine Below.trans ?_ (Below.mono hb5 ?_) | with_reducible refine Below.trans ?_ (Below.mono hb4 ?_) | omega | (simp; omega) | simp)
  · have hn : decide (mainM u < 0) = false := by rw [decide_eq_false_iff_not]; exact hneg
    have hck : (chk u).1 = 0 := by
      rcases Decidable.em ((chk u).1 = 0) with h | h
      · exact h
      · exact absurd (by unfold mainM; rw [if_neg h]; omega) hneg
    obtain ⟨m, hm, hml⟩ := mainI_get (chk_ok hck).2
    have hp : mainM u = maskI (maskB u m) := by unfold mainM; rw [if_pos hck, hm]; rfl
    have hU : UOk u := ⟨(chk_ok hck).2, U64.of HUn.out⟩
    by_cases hand : bits .and .i64 (mainM u) 96 = 0
    · have hq6 : (bits .and .i64 (mainM u) 96 != (0 : Int)) = false := by rw [hand]; rfl
      rw [hp] at hand
      obtain ⟨hb5, hb6⟩ := (and_two _).1 hand
      have hrun := fun hF : (runF u inp.length 340).1 = 0 => runO_fine' hF ▸ short_run hU hm (ints_in HI.out) hb5 hb6
      have HRun : Hid ((runF u inp.length 340).1 = 0 → (runO u inp 340).state ≠ 1 ∧ (runO u inp 340).steps ≤ manyL (fnU u m) + (fnU u m).blocks.length) := hidI hrun
      obtain ⟨fb, fo, bp, bc, hfp, e1, e2, e3, e4, _, _, _, _, hB⟩ := funGet HUn.out.fns (Below.refl _ _) hml
      obtain ⟨_, _, _, hb40, _, _, hmany⟩ := hU.fn hml
      rw [fnU_get hml] at hb40 hmany
      rw [fnU_get hml] at HRun
      have hopt : optI (mainI u.funcs) = (m : Int) := by rw [hm]; rfl
      subst hfp
      have zfb := lt_of_cell e1
      have E1 := hidI e1
      have E2 := hidI e2
      have E3 := hidI e3
      have E4 := hidI e4
      have HBk := hidI hB
      have gm0 : (0 : Int) ≤ (m : Int) := by omega
      have gm1 : (m : Int) < u.funcs.length := by omega
      clear hneg hck hp hU hand hb5 hb6 hrun e1 e2 e3 e4 hB hm
      rw [hopt]
      clear hopt
      go_wp2_with fail
      refine (do_any (HUn.out.mono HB3.out) inp lp lc 340 (HI.out.mono HB3.out (by omega) fun _ _ g => g) hic hip).mono ?_
      rintro e w5 ⟨p, c, rfl, _, _, hb5⟩
      have HB4 : Hid (Below w.heap.size w w5) := HB3.out.trans (hb5.mono HB3.out.size)
      have cu := (hb5.cell (p := ⟨w.heap.size, 1, none⟩) z4).trans (hcu 1)
      have z5 : w.heap.size < w5.heap.size := by have := hb5.size; omega
      clear hb5 hcu
      go_wp2_with fail
      obtain ⟨w6, hw6⟩ : ∃ w6, w6 = (w5.alloc (.cells #[.int .i64 (runO u inp 340).state, .int .i64 (runO u inp 340).value, .slice p (runO u inp 340).outs.length c, .int .i64 (runO u inp 340).steps] 40)).alloc (.cells #[.int .i64 (runF u inp.length 340).1, .int .i64 (runF u inp.length 340).2] 28) := ⟨_, rfl⟩
      rw [← hw6]
      have hb56 : Below w5.heap.size w5 w6 := by rw [hw6]; repeat (first | with_reducible exact Below.refl _ _ | with_reducible exact HB3.out | with_reducible refine Below.drew ?_ | with_reducible refine below_drewN ?_ _ | with_reducible refine Below.setCell ?_ ?_ _ | with_reducible refine Below.alloc ?_ ?_ _ | with_reducible exact HB2.out | with_reducible exact HB1.out | with_reducible refine Below.trans ?_ (Below.mono hb3 ?_) | with_reducible refine Below.trans ?_ (Below.mono hb5 ?_) | with_reducible refine Below.trans ?_ (Below.mono hb4 ?_) | omega | (simp; omega) | simp)
      have HB6 : Hid (Below w.heap.size w w6) := hidI (HB4.out.trans (hb56.mono (by omega)))
      have o0 : w6.heap[w5.heap.size]? = some (.cells #[.int .i64 (runO u inp 340).state, .int .i64 (runO u inp 340).value, .slice p (runO u inp 340).outs.length c, .int .i64 (runO u inp 340).steps] 40 (0, 0)) := by rw [hw6]; exact heap_step (heap_at rfl)
      have o1 : w6.heap[w5.heap.size + 1]? = some (.cells #[.int .i64 (runF u inp.length 340).1, .int .i64 (runF u inp.length 340).2] 28 (0, 0)) := by rw [hw6]; exact heap_at (by simp)
      have y0 := (Array.getElem?_eq_some_iff.1 o0).1
      have y1 := (Array.getElem?_eq_some_iff.1 o1).1
      have hbw6 := HB6.out
      have hzb : fb < w6.heap.size := by have := hbw6.size; omega
      have hAll : ∀ W : World, Below w6.heap.size w6 W → W.cell? ⟨w5.heap.size + 1, 0, none⟩ = some (.int .i64 (runF u inp.length 340).1) ∧ W.cell? ⟨w5.heap.size, 0, none⟩ = some (.int .i64 (runO u inp 340).state) ∧ W.cell? ⟨w5.heap.size, 3, none⟩ = some (.int .i64 (runO u inp 340).steps) ∧ W.cell? ⟨w.heap.size, 1, none⟩ = some (.slice (some ⟨fb, fo, none⟩) u.funcs.length fc) ∧ W.cell? ⟨fb, fo + m * 4, none⟩ = some (.string u.funcs[m].name) ∧ W.cell? ⟨fb, fo + m * 4 + 1, none⟩ = some (.int .i64 u.funcs[m].params) ∧ W.cell? ⟨fb, fo + m * 4 + 2, none⟩ = some (.int .i64 u.funcs[m].regs) ∧ W.cell? ⟨fb, fo + m * 4 + 3, none⟩ = some (.slice bp u.funcs[m].blocks.length bc) := fun W h =>
        ⟨(h.cell (p := ⟨w5.heap.size + 1, 0, none⟩) y1).trans (((blk o1).1 0).trans rfl), (h.cell (p := ⟨w5.heap.size, 0, none⟩) y0).trans (((blk o0).1 0).trans rfl), (h.cell (p := ⟨w5.heap.size, 3, none⟩) y0).trans (((blk o0).1 3).trans rfl), (h.cell (p := ⟨w.heap.size, 1, none⟩) (show w.heap.size < w6.heap.size by omega)).trans ((hb56.cell (p := ⟨w.heap.size, 1, none⟩) z5).trans (cu.trans rfl)),
          (h.cell (p := ⟨fb, _, none⟩) hzb).trans ((hbw6.cell (p := ⟨fb, _, none⟩) zfb).trans E1.out), (h.cell (p := ⟨fb, _, none⟩) hzb).trans ((hbw6.cell (p := ⟨fb, _, none⟩) zfb).trans E2.out), (h.cell (p := ⟨fb, _, none⟩) hzb).trans ((hbw6.cell (p := ⟨fb, _, none⟩) zfb).trans E3.out), (h.cell (p := ⟨fb, _, none⟩) hzb).trans ((hbw6.cell (p := ⟨fb, _, none⟩) zfb).trans E4.out)⟩
      have HAll := hidI hAll
      have HMany := hidI fun (W : World) (h : Below w6.heap.size w6 W) => many_any u.funcs[m] bp bc W (by omega) (by omega) (blksMono HBk.out (hbw6.trans (h.mono hbw6.size)))
      clear hAll cu o0 o1 hb56 hw6
      by_cases hF : (runF u inp.length 340).1 = 0
      · have hq : ((runF u inp.length 340).1 != (0 : Int)) = false := by rw [hF]; rfl
        obtain ⟨hst, hle⟩ := HRun.out hF
        have hq1 : ((runO u inp 340).state != (1 : Int)) = true := by rw [bne_iff_ne]; exact hst
        have HLe : Hid (decide (((runO u inp 340).steps : Int) ≤ (manyL u.funcs[m] : Int) + (u.funcs[m].blocks.length : Int)) = true) := hidI (by rw [decide_eq_true_iff]; omega)
        clear hF hst hle
        refine wp_region_held_drew (S := fun w' => w'.cell? ⟨w5.heap.size + 1, 0, none⟩ = some (.int .i64 (runF u inp.length 340).1) ∧ w'.cell? ⟨w5.heap.size, 0, none⟩ = some (.int .i64 (runO u inp 340).state) ∧ w'.cell? ⟨w5.heap.size, 3, none⟩ = some (.int .i64 (runO u inp 340).steps) ∧ w'.cell? ⟨w.heap.size, 1, none⟩ = some (.slice (some ⟨fb, fo, none⟩) u.funcs.length fc) ∧ w'.cell? ⟨fb, fo + m * 4, none⟩ = some (.string u.funcs[m].name) ∧ w'.cell? ⟨fb, fo + m * 4 + 1, none⟩ = some (.int .i64 u.funcs[m].params) ∧ w'.cell? ⟨fb, fo + m * 4 + 2, none⟩ = some (.int .i64 u.funcs[m].regs) ∧ w'.cell? ⟨fb, fo + m * 4 + 3, none⟩ = some (.slice bp u.funcs[m].blocks.length bc)) (by kernel_rfl) (HAll.out _ (by repeat (first | with_reducible exact Below.refl _ _ | with_reducible exact HB3.out | with_reducible refine Below.drew ?_ | with_reducible refine below_drewN ?_ _ | with_reducible refine Below.setCell ?_ ?_ _ | with_reducible refine Below.alloc ?_ ?_ _ | with_reducible exact HB2.out | with_reducible exact HB1.out | with_reducible refine Below.trans ?_ (Below.mono hb3 ?_) | with_reducible refine Below.trans ?_ (Below.mono hb5 ?_) | with_reducible refine Below.trans ?_ (Below.mono hb4 ?_) | omega | (simp; omega) | simp))) (fun hS => ?_)
        refine takeV 0 28 ?_ rfl rfl (by kernel_rfl) (by kernel_rfl) (by kernel_rfl) (fun _ _ _ h => h) (Or.inl ⟨by rfl, ?_⟩) hS ?_
        rotate_left
        · intro w hSw; (try dsimp only at hSw); go_simp; try with_reducible rfl
        simp only [Act.put, List.setIfInBounds_toArray, List.set_cons_zero, List.set_cons_succ]
        refine takeV 1 29 ?_ rfl rfl (by kernel_rfl) (by kernel_rfl) (by kernel_rfl) (fun _ _ _ h => h) (Or.inl ⟨by rfl, ?_⟩) hS ?_
        rotate_left
        · intro w hSw; (try dsimp only at hSw); go_simp; try with_reducible rfl
        simp only [Act.put, List.setIfInBounds_toArray, List.set_cons_zero, List.set_cons_succ]
        refine takeV 2 30 ?_ rfl rfl (by kernel_rfl) (by kernel_rfl) (by kernel_rfl) (fun _ _ _ h => h) (Or.inl ⟨by rfl, ?_⟩) hS ?_
        rotate_left
        · intro w hSw; (try dsimp only at hSw); go_simp; try with_reducible rfl
        simp only [Act.put, List.setIfInBounds_toArray, List.set_cons_zero, List.set_cons_succ]
        refine takeV 3 31 ?_ rfl rfl (by kernel_rfl) (by kernel_rfl) (by kernel_rfl) (fun _ _ _ h => h) (Or.inl ⟨by rfl, ?_⟩) hS ?_
        rotate_left
        · intro w hSw; (try dsimp only at hSw); go_simp; try with_reducible rfl
        simp only [Act.put, List.setIfInBounds_toArray, List.set_cons_zero, List.set_cons_succ]
        refine takeV 4 32 ?_ rfl rfl (by kernel_rfl) (by kernel_rfl) (by kernel_rfl) (fun _ _ _ h => h) (Or.inl ⟨by rfl, ?_⟩) hS ?_
        rotate_left
        · intro w hSw; (try dsimp only at hSw); go_simp; try with_reducible rfl
        simp only [Act.put, List.setIfInBounds_toArray, List.set_cons_zero, List.set_cons_succ]
        refine takeV 5 33 ?_ rfl rfl (by kernel_rfl) (by kernel_rfl) (by kernel_rfl) (fun _ _ _ h => h) (Or.inl ⟨by rfl, ?_⟩) hS ?_
        rotate_left
        · intro w hSw; (try dsimp only at hSw); go_simp; try with_reducible rfl
        simp only [Act.put, List.setIfInBounds_toArray, List.set_cons_zero, List.set_cons_succ]
        refine takeV 6 34 ?_ rfl rfl (by kernel_rfl) (by kernel_rfl) (by kernel_rfl) (fun _ _ _ h => h) (Or.inl ⟨by rfl, ?_⟩) hS ?_
        rotate_left
        · intro w hSw; (try dsimp only at hSw); go_simp; try with_reducible rfl
        simp only [Act.put, List.setIfInBounds_toArray, List.set_cons_zero, List.set_cons_succ]
        refine takeV 7 35 ?_ rfl rfl (by kernel_rfl) (by kernel_rfl) (by kernel_rfl) (fun _ _ _ h => h) (Or.inl ⟨by rfl, ?_⟩) hS ?_
        rotate_left
        · intro w hSw; (try dsimp only at hSw); go_simp; try with_reducible rfl
        simp only [Act.put, List.setIfInBounds_toArray, List.set_cons_zero, List.set_cons_succ]
        refine takeV 8 36 ?_ rfl rfl (by kernel_rfl) (by kernel_rfl) (by kernel_rfl) (fun _ _ _ h => h) (Or.inl ⟨by rfl, ?_⟩) hS ?_
        rotate_left
        · intro w hSw; (try dsimp only at hSw); go_simp; try with_reducible rfl
        simp only [Act.put, List.setIfInBounds_toArray, List.set_cons_zero, List.set_cons_succ]
        refine takeV 9 37 ?_ rfl rfl (by kernel_rfl) (by kernel_rfl) (by kernel_rfl) (fun _ _ _ h => h) (Or.inl ⟨by rfl, ?_⟩) hS ?_
        rotate_left
        · intro w hSw; (try dsimp only at hSw); go_simp; try with_reducible rfl
        simp only [Act.put, List.setIfInBounds_toArray, List.set_cons_zero, List.set_cons_succ]
        refine takeV 10 38 ?_ rfl rfl (by kernel_rfl) (by kernel_rfl) (by kernel_rfl) (fun _ _ _ h => h) (Or.inl ⟨by rfl, ?_⟩) hS ?_
        rotate_left
        · intro w hSw; (try dsimp only at hSw); go_simp; try with_reducible rfl
        simp only [Act.put, List.setIfInBounds_toArray, List.set_cons_zero, List.set_cons_succ]
        refine takeV 11 39 ?_ rfl rfl (by kernel_rfl) (by kernel_rfl) (by kernel_rfl) (fun _ _ _ h => h) (Or.inl ⟨by rfl, ?_⟩) hS ?_
        rotate_left
        · intro w hSw; (try dsimp only at hSw); go_simp; try with_reducible rfl
        simp only [Act.put, List.setIfInBounds_toArray, List.set_cons_zero, List.set_cons_succ]
        refine takeV 12 40 ?_ rfl rfl (by kernel_rfl) (by kernel_rfl) (by kernel_rfl) (fun _ _ _ h => h) (Or.inl ⟨by rfl, ?_⟩) hS ?_
        rotate_left
        · intro w hSw; (try dsimp only at hSw); go_simp; try with_reducible rfl
        simp only [Act.put, List.setIfInBounds_toArray, List.set_cons_zero, List.set_cons_succ]
        refine takeV 13 41 ?_ rfl rfl (by kernel_rfl) (by kernel_rfl) (by kernel_rfl) (fun _ _ _ h => h) (Or.inl ⟨by rfl, ?_⟩) hS ?_
        rotate_left
        · intro w hSw; (try dsimp only at hSw); go_simp; try with_reducible rfl
        simp only [Act.put, List.setIfInBounds_toArray, List.set_cons_zero, List.set_cons_succ]
        refine takeV 14 42 ?_ rfl rfl (by kernel_rfl) (by kernel_rfl) (by kernel_rfl) (fun _ _ _ h => h) (Or.inl ⟨by rfl, ?_⟩) hS ?_
        rotate_left
        · intro w hSw; (try dsimp only at hSw); go_simp; try with_reducible rfl
        simp only [Act.put, List.setIfInBounds_toArray, List.set_cons_zero, List.set_cons_succ]
        refine takeV 16 44 ?_ rfl rfl (by kernel_rfl) (by kernel_rfl) (by kernel_rfl) (fun _ _ _ h => h) (Or.inl ⟨by rfl, ?_⟩) hS ?_
        rotate_left
        · intro w hSw; (try dsimp only at hSw); go_simp; try with_reducible rfl
        simp only [Act.put, List.setIfInBounds_toArray, List.set_cons_zero, List.set_cons_succ]
        refine takeV 17 45 ?_ rfl rfl (by kernel_rfl) (by kernel_rfl) (by kernel_rfl) (fun _ _ _ h => h) (Or.inl ⟨by rfl, ?_⟩) hS ?_
        rotate_left
        · intro w hSw; (try dsimp only at hSw); go_simp; try with_reducible rfl
        simp only [Act.put, List.setIfInBounds_toArray, List.set_cons_zero, List.set_cons_succ]
        refine takeV 18 46 ?_ rfl rfl (by kernel_rfl) (by kernel_rfl) (by kernel_rfl) (fun _ _ _ h => h) (Or.inl ⟨by rfl, ?_⟩) hS ?_
        rotate_left
        · intro w hSw; (try dsimp only at hSw); go_simp; try with_reducible rfl
        simp only [Act.put, List.setIfInBounds_toArray, List.set_cons_zero, List.set_cons_succ]
        refine takeV 19 47 ?_ rfl rfl (by kernel_rfl) (by kernel_rfl) (by kernel_rfl) (fun _ _ _ h => h) (Or.inl ⟨by rfl, ?_⟩) hS ?_
        rotate_left
        · intro w hSw; (try dsimp only at hSw); go_simp; try with_reducible rfl
        simp only [Act.put, List.setIfInBounds_toArray, List.set_cons_zero, List.set_cons_succ]
        refine takeV 20 48 ?_ rfl rfl (by kernel_rfl) (by kernel_rfl) (by kernel_rfl) (fun _ _ _ h => h) (Or.inl ⟨by rfl, ?_⟩) hS ?_
        rotate_left
        · intro w hSw; (try dsimp only at hSw); go_simp; try with_reducible rfl
        simp only [Act.put, List.setIfInBounds_toArray, List.set_cons_zero, List.set_cons_succ]
        refine takeV 21 49 ?_ rfl rfl (by kernel_rfl) (by kernel_rfl) (by kernel_rfl) (fun _ _ _ h => h) (Or.inl ⟨by rfl, ?_⟩) hS ?_
        rotate_left
        · intro w hSw; (try dsimp only at hSw); go_simp; try with_reducible rfl
        simp only [Act.put, List.setIfInBounds_toArray, List.set_cons_zero, List.set_cons_succ]
        refine takeV 22 50 ?_ rfl rfl (by kernel_rfl) (by kernel_rfl) (by kernel_rfl) (fun _ _ _ h => h) (Or.inl ⟨by rfl, ?_⟩) hS ?_
        rotate_left
        · intro w hSw; (try dsimp only at hSw); go_simp; try with_reducible rfl
        simp only [Act.put, List.setIfInBounds_toArray, List.set_cons_zero, List.set_cons_succ]
        refine wpAnyH_ready (rs := [15]) (by kernel_rfl) (by simp) ?_
        refine AllReadyH.cons rfl (fun K hK => ?_) AllReadyH.nil
        go_simp
        refine (HMany.out _ (by repeat (first | with_reducible exact Below.refl _ _ | with_reducible exact HB3.out | with_reducible refine Below.drew ?_ | with_reducible refine below_drewN ?_ _ | with_reducible refine Below.setCell ?_ ?_ _ | with_reducible refine Below.alloc ?_ ?_ _ | with_reducible exact HB2.out | with_reducible exact HB1.out | with_reducible refine Below.trans ?_ (Below.mono hb3 ?_) | with_reducible refine Below.trans ?_ (Below.mono hb5 ?_) | with_reducible refine Below.trans ?_ (Below.mono hb4 ?_) | omega | (simp; omega) | simp))).mono ?_
        rintro e w7 ⟨rfl, hb7⟩
        have hN7 : Below w6.heap.size w6 w7 := Below.trans (by repeat (first | with_reducible exact Below.refl _ _ | with_reducible exact HB3.out | with_reducible refine Below.drew ?_ | with_reducible refine below_drewN ?_ _ | with_reducible refine Below.setCell ?_ ?_ _ | with_reducible refine Below.alloc ?_ ?_ _ | with_reducible exact HB2.out | with_reducible exact HB1.out | with_reducible refine Below.trans ?_ (Below.mono hb3 ?_) | with_reducible refine Below.trans ?_ (Below.mono hb5 ?_) | with_reducible refine Below.trans ?_ (Below.mono hb4 ?_) | omega | (simp; omega) | simp)) (hb7.mono (by first | omega | (simp; done) | (simp; omega)))
        refine hK.out _ _ (HAll.out _ hN7) (fun hS => ?_)
        clear hK K
        try simp only [Act.put, List.setIfInBounds_toArray, List.set_cons_zero, List.set_cons_succ]
        refine takeV 23 51 ?_ rfl rfl (by kernel_rfl) (by kernel_rfl) (by kernel_rfl) (fun _ _ _ h => h) (Or.inl ⟨by rfl, ?_⟩) hS ?_
        rotate_left
        · intro w hSw; (try dsimp only at hSw); go_simp; try with_reducible rfl
        simp only [Act.put, List.setIfInBounds_toArray, List.set_cons_zero, List.set_cons_succ]
        refine takeV 24 52 ?_ rfl rfl (by kernel_rfl) (by kernel_rfl) (by kernel_rfl) (fun _ _ _ h => h) (Or.inl ⟨by rfl, ?_⟩) hS ?_
        rotate_left
        · intro w hSw; (try dsimp only at hSw); go_simp; try with_reducible rfl
        simp only [Act.put, List.setIfInBounds_toArray, List.set_cons_zero, List.set_cons_succ]
        refine takeV 25 53 ?_ rfl rfl (by kernel_rfl) (by kernel_rfl) (by kernel_rfl) (fun _ _ _ h => h) (Or.inl ⟨by rfl, ?_⟩) hS ?_
        rotate_left
        · intro w hSw; (try dsimp only at hSw); go_simp; try with_reducible rfl
        simp only [Act.put, List.setIfInBounds_toArray, List.set_cons_zero, List.set_cons_succ]
        refine takeV 26 54 ?_ rfl rfl (by kernel_rfl) (by kernel_rfl) (by kernel_rfl) (fun _ _ _ h => h) (Or.inl ⟨by rfl, ?_⟩) hS ?_
        rotate_left
        · intro w hSw; (try dsimp only at hSw); go_simp; try with_reducible rfl
        simp only [Act.put, List.setIfInBounds_toArray, List.set_cons_zero, List.set_cons_succ]
        refine takeV 27 4 ?_ rfl rfl (by kernel_rfl) (by kernel_rfl) (by kernel_rfl) (fun _ _ _ h => h) (Or.inl ⟨by rfl, ?_⟩) hS ?_
        rotate_left
        · intro w hSw; (try dsimp only at hSw); go_simp; try with_reducible rfl
        simp only [Act.put, List.setIfInBounds_toArray, List.set_cons_zero, List.set_cons_succ]
        refine wpAnyH_done (by kernel_rfl) ?_ _
        go_wp2_with fail
        go_ret
        refine ⟨?_, HB6.out.trans (hN7.mono HB6.out.size)⟩
        show Ending.returned (.bool (decide (((runO u inp 340).steps : Int) ≤ IntKind.i64.wrap ((manyL u.funcs[m] : Int) + (u.funcs[m].blocks.length : Int))))) = _
        rw [IntWalk.i64_in _ (by omega), HLe.out]
      · have hq : ((runF u inp.length 340).1 != (0 : Int)) = true := by rw [bne_iff_ne]; exact hF
        clear hF
        refine wp_region_held_drew (S := fun w' => w'.cell? ⟨w5.heap.size + 1, 0, none⟩ = some (.int .i64 (runF u inp.length 340).1) ∧ w'.cell? ⟨w5.heap.size, 0, none⟩ = some (.int .i64 (runO u inp 340).state) ∧ w'.cell? ⟨w5.heap.size, 3, none⟩ = some (.int .i64 (runO u inp 340).steps) ∧ w'.cell? ⟨w.heap.size, 1, none⟩ = some (.slice (some ⟨fb, fo, none⟩) u.funcs.length fc) ∧ w'.cell? ⟨fb, fo + m * 4, none⟩ = some (.string u.funcs[m].name) ∧ w'.cell? ⟨fb, fo + m * 4 + 1, none⟩ = some (.int .i64 u.funcs[m].params) ∧ w'.cell? ⟨fb, fo + m * 4 + 2, none⟩ = some (.int .i64 u.funcs[m].regs) ∧ w'.cell? ⟨fb, fo + m * 4 + 3, none⟩ = some (.slice bp u.funcs[m].blocks.length bc)) (by kernel_rfl) (HAll.out _ (by repeat (first | with_reducible exact Below.refl _ _ | with_reducible exact HB3.out | with_reducible refine Below.drew ?_ | with_reducible refine below_drewN ?_ _ | with_reducible refine Below.setCell ?_ ?_ _ | with_reducible refine Below.alloc ?_ ?_ _ | with_reducible exact HB2.out | with_reducible exact HB1.out | with_reducible refine Below.trans ?_ (Below.mono hb3 ?_) | with_reducible refine Below.trans ?_ (Below.mono hb5 ?_) | with_reducible refine Below.trans ?_ (Below.mono hb4 ?_) | omega | (simp; omega) | simp))) (fun hS => ?_)
        refine takeV 0 28 ?_ rfl rfl (by kernel_rfl) (by kernel_rfl) (by kernel_rfl) (fun _ _ _ h => h) (Or.inl ⟨by rfl, ?_⟩) hS ?_
        rotate_left
        · intro w hSw; (try dsimp only at hSw); go_simp; try with_reducible rfl
        simp only [Act.put, List.setIfInBounds_toArray, List.set_cons_zero, List.set_cons_succ]
        refine takeV 1 29 ?_ rfl rfl (by kernel_rfl) (by kernel_rfl) (by kernel_rfl) (fun _ _ _ h => h) (Or.inl ⟨by rfl, ?_⟩) hS ?_
        rotate_left
        · intro w hSw; (try dsimp only at hSw); go_simp; try with_reducible rfl
        simp only [Act.put, List.setIfInBounds_toArray, List.set_cons_zero, List.set_cons_succ]
        refine takeV 2 30 ?_ rfl rfl (by kernel_rfl) (by kernel_rfl) (by kernel_rfl) (fun _ _ _ h => h) (Or.inl ⟨by rfl, ?_⟩) hS ?_
        rotate_left
        · intro w hSw; (try dsimp only at hSw); go_simp; try with_reducible rfl
        simp only [Act.put, List.setIfInBounds_toArray, List.set_cons_zero, List.set_cons_succ]
        refine takeV 3 31 ?_ rfl rfl (by kernel_rfl) (by kernel_rfl) (by kernel_rfl) (fun _ _ _ h => h) (Or.inl ⟨by rfl, ?_⟩) hS ?_
        rotate_left
        · intro w hSw; (try dsimp only at hSw); go_simp; try with_reducible rfl
        simp only [Act.put, List.setIfInBounds_toArray, List.set_cons_zero, List.set_cons_succ]
        refine takeV 4 32 undef rfl rfl (by kernel_rfl) (by kernel_rfl) (by kernel_rfl) (fun _ _ _ h => h) (Or.inr ⟨by rfl, rfl⟩) hS ?_
        simp only [Act.put, List.setIfInBounds_toArray, List.set_cons_zero, List.set_cons_succ]
        refine takeV 5 33 undef rfl rfl (by kernel_rfl) (by kernel_rfl) (by kernel_rfl) (fun _ _ _ h => h) (Or.inr ⟨by rfl, rfl⟩) hS ?_
        simp only [Act.put, List.setIfInBounds_toArray, List.set_cons_zero, List.set_cons_succ]
        refine takeV 6 34 undef rfl rfl (by kernel_rfl) (by kernel_rfl) (by kernel_rfl) (fun _ _ _ h => h) (Or.inr ⟨by rfl, rfl⟩) hS ?_
        simp only [Act.put, List.setIfInBounds_toArray, List.set_cons_zero, List.set_cons_succ]
        refine takeV 7 35 undef rfl rfl (by kernel_rfl) (by kernel_rfl) (by kernel_rfl) (fun _ _ _ h => h) (Or.inr ⟨by rfl, rfl⟩) hS ?_
        simp only [Act.put, List.setIfInBounds_toArray, List.set_cons_zero, List.set_cons_succ]
        refine takeV 8 36 undef rfl rfl (by kernel_rfl) (by kernel_rfl) (by kernel_rfl) (fun _ _ _ h => h) (Or.inr ⟨by rfl, rfl⟩) hS ?_
        simp only [Act.put, List.setIfInBounds_toArray, List.set_cons_zero, List.set_cons_succ]
        refine takeV 9 37 undef rfl rfl (by kernel_rfl) (by kernel_rfl) (by kernel_rfl) (fun _ _ _ h => h) (Or.inr ⟨by rfl, rfl⟩) hS ?_
        simp only [Act.put, List.setIfInBounds_toArray, List.set_cons_zero, List.set_cons_succ]
        refine takeV 10 38 undef rfl rfl (by kernel_rfl) (by kernel_rfl) (by kernel_rfl) (fun _ _ _ h => h) (Or.inr ⟨by rfl, rfl⟩) hS ?_
        simp only [Act.put, List.setIfInBounds_toArray, List.set_cons_zero, List.set_cons_succ]
        refine takeV 11 39 undef rfl rfl (by kernel_rfl) (by kernel_rfl) (by kernel_rfl) (fun _ _ _ h => h) (Or.inr ⟨by rfl, rfl⟩) hS ?_
        simp only [Act.put, List.setIfInBounds_toArray, List.set_cons_zero, List.set_cons_succ]
        refine takeV 12 40 undef rfl rfl (by kernel_rfl) (by kernel_rfl) (by kernel_rfl) (fun _ _ _ h => h) (Or.inr ⟨by rfl, rfl⟩) hS ?_
        simp only [Act.put, List.setIfInBounds_toArray, List.set_cons_zero, List.set_cons_succ]
        refine takeV 13 41 undef rfl rfl (by kernel_rfl) (by kernel_rfl) (by kernel_rfl) (fun _ _ _ h => h) (Or.inr ⟨by rfl, rfl⟩) hS ?_
        simp only [Act.put, List.setIfInBounds_toArray, List.set_cons_zero, List.set_cons_succ]
        refine takeV 14 42 undef rfl rfl (by kernel_rfl) (by kernel_rfl) (by kernel_rfl) (fun _ _ _ h => h) (Or.inr ⟨by rfl, rfl⟩) hS ?_
        simp only [Act.put, List.setIfInBounds_toArray, List.set_cons_zero, List.set_cons_succ]
        refine takeV 15 43 undef rfl rfl (by kernel_rfl) (by kernel_rfl) (by kernel_rfl) (fun _ _ _ h => h) (Or.inr ⟨by rfl, rfl⟩) hS ?_
        simp only [Act.put, List.setIfInBounds_toArray, List.set_cons_zero, List.set_cons_succ]
        refine takeV 16 44 undef rfl rfl (by kernel_rfl) (by kernel_rfl) (by kernel_rfl) (fun _ _ _ h => h) (Or.inr ⟨by rfl, rfl⟩) hS ?_
        simp only [Act.put, List.setIfInBounds_toArray, List.set_cons_zero, List.set_cons_succ]
        refine takeV 17 45 undef rfl rfl (by kernel_rfl) (by kernel_rfl) (by kernel_rfl) (fun _ _ _ h => h) (Or.inr ⟨by rfl, rfl⟩) hS ?_
        simp only [Act.put, List.setIfInBounds_toArray, List.set_cons_zero, List.set_cons_succ]
        refine takeV 18 46 undef rfl rfl (by kernel_rfl) (by kernel_rfl) (by kernel_rfl) (fun _ _ _ h => h) (Or.inr ⟨by rfl, rfl⟩) hS ?_
        simp only [Act.put, List.setIfInBounds_toArray, List.set_cons_zero, List.set_cons_succ]
        refine takeV 19 47 undef rfl rfl (by kernel_rfl) (by kernel_rfl) (by kernel_rfl) (fun _ _ _ h => h) (Or.inr ⟨by rfl, rfl⟩) hS ?_
        simp only [Act.put, List.setIfInBounds_toArray, List.set_cons_zero, List.set_cons_succ]
        refine takeV 20 48 undef rfl rfl (by kernel_rfl) (by kernel_rfl) (by kernel_rfl) (fun _ _ _ h => h) (Or.inr ⟨by rfl, rfl⟩) hS ?_
        simp only [Act.put, List.setIfInBounds_toArray, List.set_cons_zero, List.set_cons_succ]
        refine takeV 21 49 undef rfl rfl (by kernel_rfl) (by kernel_rfl) (by kernel_rfl) (fun _ _ _ h => h) (Or.inr ⟨by rfl, rfl⟩) hS ?_
        simp only [Act.put, List.setIfInBounds_toArray, List.set_cons_zero, List.set_cons_succ]
        refine takeV 22 50 undef rfl rfl (by kernel_rfl) (by kernel_rfl) (by kernel_rfl) (fun _ _ _ h => h) (Or.inr ⟨by rfl, rfl⟩) hS ?_
        simp only [Act.put, List.setIfInBounds_toArray, List.set_cons_zero, List.set_cons_succ]
        refine takeV 23 51 undef rfl rfl (by kernel_rfl) (by kernel_rfl) (by kernel_rfl) (fun _ _ _ h => h) (Or.inr ⟨by rfl, rfl⟩) hS ?_
        simp only [Act.put, List.setIfInBounds_toArray, List.set_cons_zero, List.set_cons_succ]
        refine takeV 24 52 undef rfl rfl (by kernel_rfl) (by kernel_rfl) (by kernel_rfl) (fun _ _ _ h => h) (Or.inr ⟨by rfl, rfl⟩) hS ?_
        simp only [Act.put, List.setIfInBounds_toArray, List.set_cons_zero, List.set_cons_succ]
        refine takeV 25 53 undef rfl rfl (by kernel_rfl) (by kernel_rfl) (by kernel_rfl) (fun _ _ _ h => h) (Or.inr ⟨by rfl, rfl⟩) hS ?_
        simp only [Act.put, List.setIfInBounds_toArray, List.set_cons_zero, List.set_cons_succ]
        refine takeV 26 54 ?_ rfl rfl (by kernel_rfl) (by kernel_rfl) (by kernel_rfl) (fun _ _ _ h => h) (Or.inl ⟨by rfl, ?_⟩) hS ?_
        rotate_left
        · intro w hSw; (try dsimp only at hSw); go_simp; try with_reducible rfl
        simp only [Act.put, List.setIfInBounds_toArray, List.set_cons_zero, List.set_cons_succ]
        refine takeV 27 4 ?_ rfl rfl (by kernel_rfl) (by kernel_rfl) (by kernel_rfl) (fun _ _ _ h => h) (Or.inl ⟨by rfl, ?_⟩) hS ?_
        rotate_left
        · intro w hSw; (try dsimp only at hSw); go_simp; try with_reducible rfl
        simp only [Act.put, List.setIfInBounds_toArray, List.set_cons_zero, List.set_cons_succ]
        refine wpAnyH_done (by kernel_rfl) ?_ _
        go_wp2_with fail
        go_ret
        refine ⟨rfl, ?_⟩
        have HB1 := HB6
        repeat (first | with_reducible exact Below.refl _ _ | with_reducible exact HB3.out | with_reducible refine Below.drew ?_ | with_reducible refine below_drewN ?_ _ | with_reducible refine Below.setCell ?_ ?_ _ | with_reducible refine Below.alloc ?_ ?_ _ | with_reducible exact HB2.out | with_reducible exact HB1.out | with_reducible refine Below.trans ?_ (Below.mono hb3 ?_) | with_reducible refine Below.trans ?_ (Below.mono hb5 ?_) | with_reducible refine Below.trans ?_ (Below.mono hb4 ?_) | omega | (simp; omega) | simp)
    · have hq6 : (bits .and .i64 (mainM u) 96 != (0 : Int)) = true := by rw [bne_iff_ne]; exact hand
      clear hand hp hm
      go_wp2_with fail
      all_goals
        go_ret
        refine ⟨congrArg (fun b => Ending.returned (.bool b)) ?_, ?_⟩
        · first | rfl | (simp_all; done)
        · have HB1 := HB3
          repeat (first | with_reducible exact Below.refl _ _ | with_reducible exact HB3.out | with_reducible refine Below.drew ?_ | with_reducible refine below_drewN ?_ _ | with_reducible refine Below.setCell ?_ ?_ _ | with_reducible refine Below.alloc ?_ ?_ _ | with_reducible exact HB2.out | with_reducible exact HB1.out | with_reducible refine Below.trans ?_ (Below.mono hb3 ?_) | with_reducible refine Below.trans ?_ (Below.mono hb5 ?_) | with_reducible refine Below.trans ?_ (Below.mono hb4 ?_) | omega | (simp; omega) | simp)
theorem short_all (u : UniL) (gp fp : Option Addr) (gc fc : Nat) (xs : List Int) (lp : Option Addr) (lc : Nat) (w : World) (hgl : u.globals.length * 48 ≤ 140737488351232) (hG : SliceAt w 3 (GloR w) gp u.globals) (hfl : u.funcs.length * 56 ≤ 140737488351232) (hF : SliceAt w 4 (FunR w) fp u.funcs) (hw0 : Ways w) (hln : lp = none → xs.length = 0 ∧ lc = 0) (hlc : xs.length ≤ lc) (_ : lc * 8 ≤ reachBytes) (hls : SliceAt w 1 IntR lp xs) :
    Calls Tryd.prog 14 #[.agg #[.slice gp u.globals.length gc, .slice fp u.funcs.length fc], .slice lp xs.length lc] w fun e w' => e = .returned (.bool true) ∧ Below w.heap.size w w' :=
  short_un ⟨hgl, hG, hfl, hF, hw0⟩ xs lp lc hls hlc (fun e => (hln e).2)
end Go.Proofs.YtlalmbklhmpngaaDoor
