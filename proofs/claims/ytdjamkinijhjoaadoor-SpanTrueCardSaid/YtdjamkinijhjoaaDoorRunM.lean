/-
  What run.Counts sets up: the walk.
-/
import Derived.Deep.RegionLaw
import Derived.BigQuiet
import Derived.Deep.QuietTactic
import Derived.WalkKit
import Derived.WalkSpells
import Derived.WalkLawsBesides
import Derived.Test.YtdjamkinijhjoaaDoorJRunS
import Derived.Test.YtdjamkinijhjoaaDoorRunO
namespace Go.Proofs.YtdjamkinijhjoaaDoor
open Go.RowKit

set_option maxRecDepth 100000 in
set_option maxHeartbeats 4000000 in
theorem counts_ok (u : UniL) (gp fp : Option Addr) (gc fc : Nat) (inp : List Int) (ip : Option Addr) (ic : Nat) (fuel : Nat) (w : World) (hgl : u.globals.length * 48 ≤ 140737488351232) (hG : SliceAt w 3 (GloR w) gp u.globals) (hfl : u.funcs.length * 56 ≤ 140737488351232) (hF : SliceAt w 4 (FunR w) fp u.funcs) (hw0 : Ways w) (h : (chk u).1 = 0)
  (hU : U64 u) (hin : inp.length ≤ 30) (hinI : ∀ x ∈ inp, I64 x) (hI : SliceAt w 1 IntR ip inp) (hic : inp.length ≤ ic) (hip : ip = none → ic = 0) (hfu : fuel ≤ 100000) :
  Calls Tryd.prog 47 #[.agg #[.slice gp u.globals.length gc, .slice fp u.funcs.length fc], .slice ip inp.length ic, .int .i64 fuel] w fun e w' => ∃ CT cc p c, e = .returned (.tuple #[.slice (some ⟨CT, 0, none⟩) u.funcs.length cc, .agg #[.int .i64 (runU u inp fuel).state, .int .i64 (runU u inp fuel).value, .slice p (runU u inp fuel).outs.length c, .int .i64 (runU u inp fuel).steps], .agg #[.int .i64 0, .int .i64 0]]) ∧ RunAt u w' (runU u inp fuel) w.heap.size CT p ∧ Below w.heap.size w w' := by
 obtain ⟨i1, k1, k2, k3, k4⟩ := info_parts infoInt9
 have HG := hidI hG
 have HF := hidI hF
 have HW := hidI hw0
 have HK := hidI (chk_ok h).2
 have HH := hidI h
 have hne : ((chk u).1 == 0 && (chk u).2 == 0) = true := by rw [(chk_ok h).1]; rfl
 have hq : ∀ w, (binOp .neq 28 (.agg #[.int .i64 (chk u).1, .int .i64 (chk u).2]) (.agg #[.int .i64 0, .int .i64 0])).run Tryd.prog w = .ok (.bool false) w := fun w => by rw [run_neFault, hne]; rfl
 have hwt : wthn (fuel : Int) 0 100000 = true := by unfold wthn; simp only [decide_eq_true_eq]; omega
 have HWt := hidI hwt
 have hnf := (chk_ok h).2.nf
 have hng := (chk_ok h).2.ng
 have hml0 := memTo_le (chk_ok h).2
 clear hG hF hw0 h hne hwt
 go_enter Tryd.func47, Tryd.ntmps47
 go_wp2_with fail
 refine (check_any u _ _ _ _ _ hgl ?_ hfl ?_ ?_).mono ?_
 ·exact glosMono HG.out (by repeat (first | (with_reducible first | exact bR _ _ | exact bH ‹_› | refine bD ?_ | refine bN ?_ _ | refine bS ?_ ?_ _ | refine bA ?_ ?_ _ | refine bT hb3 ?_ ?_ | refine bT hb5 ?_ ?_ | refine bT hb4 ?_ ?_) | omega | (simp; omega) | simp))
 ·exact funsMono HF.out (by repeat (first | (with_reducible first | exact bR _ _ | exact bH ‹_› | refine bD ?_ | refine bN ?_ _ | refine bS ?_ ?_ _ | refine bA ?_ ?_ _ | refine bT hb3 ?_ ?_ | refine bT hb5 ?_ ?_ | refine bT hb4 ?_ ?_) | omega | (simp; omega) | simp))
 ·exact HW.out.below (by repeat (first | (with_reducible first | exact bR _ _ | exact bH ‹_› | refine bD ?_ | refine bN ?_ _ | refine bS ?_ ?_ _ | refine bA ?_ ?_ _ | refine bT hb3 ?_ ?_ | refine bT hb5 ?_ ?_ | refine bT hb4 ?_ ?_) | omega | (simp; omega) | simp))
 rintro e w2 ⟨rfl, hb2⟩
 have HB1 : Hid (Below w.heap.size w w2) := Below.trans (by repeat (first | (with_reducible first | exact bR _ _ | exact bH ‹_› | refine bD ?_ | refine bN ?_ _ | refine bS ?_ ?_ _ | refine bA ?_ ?_ _ | refine bT hb3 ?_ ?_ | refine bT hb5 ?_ ?_ | refine bT hb4 ?_ ?_) | omega | (simp; omega) | simp)) (hb2.mono (by simp; omega))
 obtain ⟨hcc, hcf, hzz⟩ := bcell hb2
 simp at hzz
 have hz0 : w.heap.size < w2.heap.size := by omega
 have hz1 : w.heap.size + 1 < w2.heap.size := by omega
 have hz2 : w.heap.size + 1 + 1 < w2.heap.size := by omega
 have h2a : w2.heap[w.heap.size]? = some (.cells #[.slice gp u.globals.length gc, .slice fp u.funcs.length fc] 25 (0, 0)) := heap_below hb2 (k := w.heap.size) (by simp; omega) (heap_step (heap_step (heap_here w _)))
 have h2b : w2.heap[w.heap.size + 1]? = some (.cells #[.int .i64 0, .int .i64 0, .slice none 0 0, .int .i64 0] 65 (0, 0)) := heap_below hb2 (k := w.heap.size + 1) (by simp) (heap_step (heap_at (by simp)))
 have h2c : w2.heap[w.heap.size + 1 + 1]? = some (.cells #[.int .i64 0, .int .i64 0] 28 (0, 0)) := heap_below hb2 (k := w.heap.size + 1 + 1) (by simp) (heap_at (by simp))
 have H2 := hidI (And.intro h2a (And.intro h2b h2c))
 clear hb2 h2a h2b h2c
 go_wp2_with fail
 refine (within_any _ _ _ _).mono ?_
 rw [HWt.out]
 rintro e w3 ⟨rfl, rfl⟩
 go_wp2_with fail
 have HS1 : Hid (Below w.heap.size w ((w2.alloc (.cells #[.int .i64 (chk u).1, .int .i64 (chk u).2] 28)).alloc (.cells (setC u gp fp gc fc (.slice none 0 0) (.slice none 0 0) (.slice ip inp.length ic) (.slice none 0 0)) 148))) := HB1.out.trans (((Below.refl _ _).alloc (by omega) _).alloc (by simp; omega) _)
 go_loopw [41] (fun i wr => ∃ k : Nat, k ≤ u.globals.length ∧ i = .int .i64 k ∧ (∃ mv, wr.heap[w2.heap.size + 1]? = some (.cells (setC u gp fp gc fc (.slice none 0 0) mv (.slice ip inp.length ic) (.slice none 0 0)) 148 (0, 0)) ∧ wr.ownsRow (w2.heap.size + 1 + 1) 3 1 mv (memTo u k).length ((memTo u k).map (.int .i64))) ∧ Below (w2.heap.size + 1) ((w2.alloc (.cells #[.int .i64 (chk u).1, .int .i64 (chk u).2] 28)).alloc (.cells (setC u gp fp gc fc (.slice none 0 0) (.slice none 0 0) (.slice ip inp.length ic) (.slice none 0 0)) 148)) wr) (fun i _ => u.globals.length - (intOf i).toNat)
 case atStart => exact ⟨0, by omega, rfl, ⟨_, heap_at (by simp), World.ownsRow_nil _ _ _ _⟩, Below.refl _ _⟩
 case round =>
  obtain ⟨k, hk, rfl, ⟨mv, hW, hown⟩, hb⟩ := hrel
  obtain ⟨mp, mc, rfl⟩ := own_slice hown
  have hml := hml0 k hk
  by_cases hlt : k < u.globals.length
  ·have hbw : Below w.heap.size w wr := HS1.out.trans (hb.mono (by omega))
   obtain ⟨bg, og, qg, cg, hpg, e0, e1, e2, _, _, _, hsI⟩ := gloGet HG.out hbw hlt
   subst hpg
   have zG0 : bg < w.heap.size := by
    obtain ⟨b', o', q', c', hp', e0', _⟩ := gloGet HG.out (Below.refl _ _) hlt
    cases hp'
    exact lt_of_cell e0'
   have hgz := gloE_zero ((gloI_eq hlt).symm.trans (HK.out.glo k hlt))
   obtain ⟨sz, hsz⟩ := Int.eq_ofNat_of_zero_le (show 0 ≤ u.globals[k].size by omega)
   have hms := memTo_succ hlt
   have hmls := hml0 (k + 1) hlt
   rw [hsz] at e1 hgz hms
   rw [Int.toNat_natCast] at hms
   have hcs := blk hW
   have c3 : wr.cell? ⟨w2.heap.size + 1, 3, none⟩ = some (.slice mp (memTo u k).length mc) := by rw [hcs.1]; rfl
   have f3 := hcs.2 3
   have zW := lt_of_cell c3
   have zG := lt_of_cell e0
   have hqn : qg = none → u.globals[k].init = [] := fun e => by
    rcases hsI with h0 | ⟨b, o, hp, _⟩
    ·exact h0
    ·rw [e] at hp; cases hp
   have hqy : ∀ j (h : j < u.globals[k].init.length), ∃ b o, qg = some ⟨b, o, none⟩ ∧ wr.cell? ⟨b, o + j, none⟩ = some (.int .i64 u.globals[k].init[j]) := fun j hj => by
    obtain ⟨b, o, hp, hc, _⟩ := intGet hsI (Below.refl _ _) hj
    exact ⟨b, o, hp, hc⟩
   generalize u.globals[k].init = ini at *
   generalize u.globals[k].name = nm at *
   have HApp : Hid (∀ W', Below wr.heap.size wr W' → ∃ v' w', (Builtin.append_ #[46, 46] 46 #[.slice mp (memTo u k).length mc, .slice qg ini.length cg]).run Tryd.prog W' = .ok v' w' ∧ ∃ p' c', v' = .slice p' ((memTo u k).length + ini.length) c' ∧ w'.ownsRow (w2.heap.size + 1 + 1) 3 1 (.slice p' ((memTo u k).length + ini.length) c') ((memTo u k).length + ini.length) ((memTo u k).map (.int .i64) ++ ini.map (.int .i64)) ∧ W'.grownBy w' (Value.slice mp (memTo u k).length mc).ownBlock) := fun W' hW' => by
    obtain ⟨v', w', hr, h1, h2⟩ := run_ints_own (P := Tryd.prog) W' (w2.heap.size + 1 + 1) 46 46 3 i1 underInts9 k1 k2 k3 k4 _ _ _ (ownsRow_below' hown hW') qg cg ini hqn (fun j hj => by
     obtain ⟨b, o, e, hc⟩ := hqy j hj
     exact ⟨b, o, e, (hW'.cell (p := ⟨b, o + j, none⟩) (lt_of_cell hc)).trans hc⟩) (by rw [hms] at hmls; simp at hmls; omega) (by have := hW'.size; omega)
    obtain ⟨p', c', rfl⟩ := own_slice h1
    exact ⟨_, w', hr, p', c', rfl, h1, h2⟩
   have HNx := hidI fun (W' w' : World) (v' : Value) (n' : Nat) (xs' : List Value) (hW' : Below wr.heap.size wr W') (hg : W'.grownBy w' (Value.slice mp (memTo u k).length mc).ownBlock) (hg2 : w'.ownsRow (w2.heap.size + 1 + 1) 3 1 v' n' xs') => set3 hW hown hW' hg hg2
   have HWb := hidI hW
   have HOw := hidI hown
   have HBw := hidI hbw
   have HBr := hidI hb
   have HMs := hidI hms
   clear hW hown hbw hb hms hqn hqy hsI hcs hcc hcf hsz
   go_wp2_with fail
   go_region_law (refine step_append_run rfl (.tmp 49) (.tmp 51) 46 46 rfl (.slice mp (memTo u k).length mc) (.slice qg ini.length cg) (by simp [Act.eval]) (by simp [Act.eval]) _ (HApp.out _ (by repeat (first | (with_reducible first | exact bR _ _ | exact bH ‹_› | refine bD ?_ | refine bN ?_ _ | refine bS ?_ ?_ _ | refine bA ?_ ?_ _ | refine bT hb3 ?_ ?_ | refine bT hb5 ?_ ?_ | refine bT hb4 ?_ ?_) | omega | (simp; omega) | simp))) ?_; rintro v' w5 ⟨p', c', rfl, hown', hgrow⟩; obtain ⟨h4, h5, o5, b5, z6, z5⟩ := HNx.out _ _ _ _ _ (by repeat (first | (with_reducible first | exact bR _ _ | exact bH ‹_› | refine bD ?_ | refine bN ?_ _ | refine bS ?_ ?_ _ | refine bA ?_ ?_ _ | refine bT hb3 ?_ ?_ | refine bT hb5 ?_ ?_ | refine bT hb4 ?_ ?_) | omega | (simp; omega) | simp)) hgrow hown'; have c5 : w5.cell? ⟨w2.heap.size + 1, 3, none⟩ = some (.slice mp (memTo u k).length mc) := ((blk h4).1 3).trans rfl; have f5 := (blk h4).2 3)
   all_goals
    have hbx : (w5.setCell ⟨w2.heap.size + 1, 3, none⟩ (.slice p' ((memTo u k).length + ini.length) c')).heap[wr.heap.size]? = some (.cells #[.string nm, .int .i64 sz, .slice qg ini.length cg] 90 (0, 0)) := by
     rw [Go.Deep.blk_setCell_other w5 ⟨w2.heap.size + 1, 3, none⟩ _ _ (show wr.heap.size ≠ w2.heap.size + 1 by omega)]
     exact (hgrow.block wr.heap.size (by simp) (fun e => by have := (HOw.out.lt _ e.symm).2; omega)).trans (heap_at rfl)
    clear hgrow h4 c5 f5
    generalize (w5.setCell ⟨w2.heap.size + 1, 3, none⟩ (.slice p' ((memTo u k).length + ini.length) c')) = W5 at *
    have c6 : W5.cell? ⟨w2.heap.size + 1, 3, none⟩ = some (.slice p' ((memTo u k).length + ini.length) c') := ((blk h5).1 3).trans rfl
    have f6 := (blk h5).2 3
    have y5 : w2.heap.size + 1 < W5.heap.size := by omega
    have q1 : W5.cell? ⟨wr.heap.size, 1, none⟩ = some (.int .i64 sz) := ((blk hbx).1 1).trans rfl
    have q2 : W5.cell? ⟨wr.heap.size, 2, none⟩ = some (.slice qg ini.length cg) := ((blk hbx).1 2).trans rfl
    have y6 := lt_of_cell q1
    clear hbx
    have hwr : IntKind.i64.wrap ((sz : Int) - ini.length) = ((sz - ini.length : Nat) : Int) := by rw [IntKind.wrap_i64]; omega
    have HZ := hidI fun (W' : World) (hW' : Below W5.heap.size W5 W') => zerosStep (k := sz - ini.length) o5 hW' y5 (by omega)
    have HN2 := hidI fun (W' w' : World) (v' : Value) (n' : Nat) (xs' : List Value) (hW' : Below W5.heap.size W5 W') (hg : W'.grownBy w' (Value.slice p' ((memTo u k).length + ini.length) c').ownBlock) (hg2 : w'.ownsRow (w2.heap.size + 1 + 1) 3 1 v' n' xs') => set3 h5 o5 hW' hg hg2
    have HO5 := hidI (And.intro h5 (And.intro o5 b5))
    clear e0 e1 e2 c3 f3 h5 o5 b5
    go_wp2_with fail
    go_region_law (refine step_append_run rfl (.tmp 59) (.tmp 65) 46 3 rfl (.slice p' ((memTo u k).length + ini.length) c') (.int .i64 (sz - ini.length : Nat)) (by simp [Act.eval, Act.put]) (by simp [Act.eval, Act.put]) _ (HZ.out _ (by repeat (first | (with_reducible first | exact bR _ _ | exact bH ‹_› | refine bD ?_ | refine bN ?_ _ | refine bS ?_ ?_ _ | refine bA ?_ ?_ _ | refine bT hb3 ?_ ?_ | refine bT hb5 ?_ ?_ | refine bT hb4 ?_ ?_) | omega | (simp; omega) | simp))) ?_; rintro v'' w6 ⟨p'', c'', rfl, hown'', hgrow'⟩; obtain ⟨h7, h8, o8, b8, z8, z9⟩ := HN2.out _ _ _ _ _ (by repeat (first | (with_reducible first | exact bR _ _ | exact bH ‹_› | refine bD ?_ | refine bN ?_ _ | refine bS ?_ ?_ _ | refine bA ?_ ?_ _ | refine bT hb3 ?_ ?_ | refine bT hb5 ?_ ?_ | refine bT hb4 ?_ ?_) | omega | (simp; omega) | simp)) hgrow' hown''; have c7 : w6.cell? ⟨w2.heap.size + 1, 3, none⟩ = some (.slice p' ((memTo u k).length + ini.length) c') := ((blk h7).1 3).trans rfl; have f7 := (blk h7).2 3)
    all_goals
     go_wp2_with fail
     refine ⟨⟨k + 1, by omega, by go_num, ⟨_, h8, ?_⟩, HBr.out.trans (HO5.out.2.2.trans b8)⟩, by simp [intOf]; omega⟩
     rw [HMs.out]
     simpa [Nat.add_assoc] using o8
  ·obtain rfl : k = u.globals.length := by omega
   have hmu : memTo u u.globals.length = memU u := by unfold memTo memU; rw [List.take_length]
   rw [hmu] at hW hown hml
   clear hcc hcf
   obtain ⟨W0, hW0⟩ : ∃ W0, W0 = w2.alloc (.cells #[.int .i64 (chk u).1, .int .i64 (chk u).2] 28) := ⟨_, rfl⟩
   have hs0 : W0.heap.size = w2.heap.size + 1 := by rw [hW0]; simp
   have hbW : Below W0.heap.size W0 wr := by
    rw [hs0]
    exact Below.trans (by rw [hW0]; exact (Below.refl _ _).alloc (by simp) _) hb
   have HB0 : Hid (Below w.heap.size w W0) := hidI (by rw [hW0]; exact HB1.out.alloc (by omega) _)
   have HA0 : Hid (W0.heap[w.heap.size]? = some (.cells #[.slice gp u.globals.length gc, .slice fp u.funcs.length fc] 25 (0, 0)) ∧ W0.heap[w.heap.size + 1]? = some (.cells #[.int .i64 0, .int .i64 0, .slice none 0 0, .int .i64 0] 65 (0, 0)) ∧ W0.heap[w.heap.size + 1 + 1]? = some (.cells #[.int .i64 0, .int .i64 0] 28 (0, 0))) := by
    have h := H2.out
    rw [hW0]
    exact ⟨heap_step h.1, heap_step h.2.1, heap_step h.2.2⟩
   obtain ⟨ro, hS⟩ := SetR.start hs0 hbW hW hown
   have HS0 := hidI hS
   have hu0 := (hbW.block w.heap.size (by omega)).trans HA0.out.1
   have hz0' : w.heap.size < wr.heap.size := (Array.getElem?_eq_some_iff.1 hu0).1
   have cu1 : wr.cell? ⟨w.heap.size, 1, none⟩ = some (.slice fp u.funcs.length fc) := ((blk hu0).1 1).trans rfl
   clear hW hown hbW hS hb hu0 HS1 hW0
   go_wp2_with fail
   go_loopw [73] (fun i wr => ∃ k : Nat, k ≤ u.funcs.length ∧ i = .int .i64 k ∧ ∃ ro av cv A v C, SetR W0 (w2.heap.size + 1) u gp fp gc fc (.slice mp (memU u).length mc) (.slice ip inp.length ic) wr ro k k av cv A v C) (fun i _ => u.funcs.length - (intOf i).toNat)
   case atStart => exact ⟨0, by omega, rfl, ro, _, _, _, _, _, HS0.out⟩
   case round =>
    obtain ⟨k, hk, rfl, ro, av, cv, A, v, C, hS⟩ := hrel
    obtain ⟨ap, ac, rfl⟩ := own_slice hS.ahdO
    obtain ⟨cp, cc, rfl⟩ := own_slice hS.cntO
    have HS := hidI hS
    have HBx : Hid (Below w.heap.size w wr) := hidI (HB0.out.trans (hS.below.mono HB0.out.size))
    by_cases hlt : k < u.funcs.length
    ·obtain ⟨fb, fo, bp, bc, hfp, e1, e2, e3, e4, _⟩ := funGet HF.out HBx.out hlt
     subst hfp
     have hu0 := (hS.below.block w.heap.size (by omega)).trans HA0.out.1
     have hzu : w.heap.size < wr.heap.size := (Array.getElem?_eq_some_iff.1 hu0).1
     have cu0 : wr.cell? ⟨w.heap.size, 0, none⟩ = some (.slice gp u.globals.length gc) := ((blk hu0).1 0).trans rfl
     have cu1 : wr.cell? ⟨w.heap.size, 1, none⟩ = some (.slice (some ⟨fb, fo, none⟩) u.funcs.length fc) := ((blk hu0).1 1).trans rfl
     have zF := lt_of_cell e1
     clear hS hu0
     go_wp2_with fail
     refine (aheadX_ok u _ _ _ _ _ hgl ?_ hfl ?_ ?_ HH.out hlt).mono ?_
     ·exact glosMono HG.out (HBx.out.trans (by repeat (first | (with_reducible first | exact bR _ _ | exact bH ‹_› | refine bD ?_ | refine bN ?_ _ | refine bS ?_ ?_ _ | refine bA ?_ ?_ _ | refine bT hb3 ?_ ?_ | refine bT hb5 ?_ ?_ | refine bT hb4 ?_ ?_) | omega | (simp; omega) | simp)))
     ·exact funsMono HF.out (HBx.out.trans (by repeat (first | (with_reducible first | exact bR _ _ | exact bH ‹_› | refine bD ?_ | refine bN ?_ _ | refine bS ?_ ?_ _ | refine bA ?_ ?_ _ | refine bT hb3 ?_ ?_ | refine bT hb5 ?_ ?_ | refine bT hb4 ?_ ?_) | omega | (simp; omega) | simp)))
     ·exact HW.out.below (HBx.out.trans (by repeat (first | (with_reducible first | exact bR _ _ | exact bH ‹_› | refine bD ?_ | refine bN ?_ _ | refine bS ?_ ?_ _ | refine bA ?_ ?_ _ | refine bT hb3 ?_ ?_ | refine bT hb5 ?_ ?_ | refine bT hb4 ?_ ?_) | omega | (simp; omega) | simp)))
     rintro e w3 ⟨T, B, f, rfl, hTl, hR2, hb3⟩
     have hbx : w3.heap[wr.heap.size]? = some (.cells #[.string u.funcs[k].name, .int .i64 u.funcs[k].params, .int .i64 u.funcs[k].regs, .slice bp u.funcs[k].blocks.length bc] 37 (0, 0)) := heap_below hb3 (by simp) (heap_at rfl)
     have hb3' : Below wr.heap.size wr w3 := Below.trans (by repeat (first | (with_reducible first | exact bR _ _ | exact bH ‹_› | refine bD ?_ | refine bN ?_ _ | refine bS ?_ ?_ _ | refine bA ?_ ?_ _ | refine bT hb3 ?_ ?_ | refine bT hb5 ?_ ?_ | refine bT hb4 ?_ ?_) | omega | (simp; omega) | simp)) (hb3.mono (by simp))
     have HS3 := hidI (HS.out.mono hb3')
     have hTl' : wr.heap.size ≤ T := by simp at hTl; omega
     have c2 : w3.cell? ⟨w2.heap.size + 1, 2, none⟩ = some (.slice ap k ac) := ((blk HS3.out.head).1 2).trans rfl
     have f2 := (blk HS3.out.head).2 2
     have zW3 := lt_of_cell c2
     have zT3 : wr.heap.size < w3.heap.size := (Array.getElem?_eq_some_iff.1 hbx).1
     have HR2 := hidI hR2
     have HB3 := hidI hb3'
     have HX := hidI hbx
     clear hR2 hb3 hb3' hbx cu0 cu1 e1 e2 e3 e4 hTl
     obtain ⟨i3, m1, m2, m3, m4⟩ := info_parts infoRows9
     go_wp2_with (at_builtin; refine wpList_append_own_at _ rfl _ _ 145 rfl W0.heap.size 94 i3 (.slice none 0 0) 1 24 underRowss9 m1 m2 m3 m4 rfl (by decide) _ _ _ rfl ((HS3.out.ahdO.alloc _).alloc _) ⟨w3.heap.size + 1, 0, none⟩ 1 1 [.slice (some ⟨T, 0, none⟩) (fnU u k).blocks.length (fnU u k).blocks.length] rfl rfl (cell_one_at _ _ _ _ (by simp)) (by simp [Value.oneCell']) (by unfold maxLen; omega) (by omega) ?_ ?_)
     ·simp; omega
     intro v' w5 hown' hgrow _ hat
     obtain ⟨ap', ac', rfl⟩ := own_slice hown'
     have hb5 : Below wr.heap.size wr ((w3.alloc (.cells #[.int .i64 0, .int .i64 0] 28)).alloc (.cells #[.slice (some ⟨T, 0, none⟩) (fnU u k).blocks.length (fnU u k).blocks.length] 94)) := (HB3.out.alloc (by have := HB3.out.size; omega) _).alloc (by have := HB3.out.size; simp; omega) _
     have hh5 := HS.out.headAt hb5 hgrow HS.out.roA (by omega)
     have c5 : w5.cell? ⟨w2.heap.size + 1, 2, none⟩ = some (.slice ap k ac) := ((blk hh5).1 2).trans rfl
     have f5 := (blk hh5).2 2
     have z5 := lt_of_cell c5
     have hS5 := HS.out.ahead (by omega) hb5 ((HR2.out.alloc _).alloc _) hTl' (by rw [hs0]; exact hown') hgrow (by simpa using hat)
     have hx5 : (w5.setCell ⟨w2.heap.size + 1, 2, none⟩ (.slice ap' (k + 1) ac')).heap[wr.heap.size]? = some (.cells #[.string u.funcs[k].name, .int .i64 u.funcs[k].params, .int .i64 u.funcs[k].regs, .slice bp u.funcs[k].blocks.length bc] 37 (0, 0)) := by
      rw [Go.Deep.blk_setCell_other w5 ⟨w2.heap.size + 1, 2, none⟩ _ _ (fun e => by have e2 : wr.heap.size = w2.heap.size + 1 := e; have := (Array.getElem?_eq_some_iff.1 HS.out.head).1; omega)]
      exact (hgrow.block wr.heap.size (by simp; omega) (fun e => by have := (HS.out.ahdO.lt _ e.symm).2; omega)).trans (heap_step (heap_step HX.out))
     have HS5 := hidI hS5
     have HX5 := hidI hx5
     have HB5 := hidI (And.intro hh5 hb5)
     clear hown' hgrow hat hh5 hb5 hx5 hS5 c2 f2
     go_wp2_with fail
     have hfu : u.funcs[k].blocks.length = (fnU u k).blocks.length := by rw [fnU_get hlt]
     have hnb := hidI (UOk.mk HK.out hU)
     have hWx := (Array.getElem?_eq_some_iff.1 HX5.out).1
     have cx := (blk HX5.out).1 3
     rw [hfu] at cx
     have cx' := cx.trans rfl
     generalize (w5.setCell ⟨w2.heap.size + 1, 2, none⟩ (.slice ap' (k + 1) ac')) = W5 at *
     obtain ⟨ro5, hS5⟩ := HS5.out
     have c10 : W5.cell? ⟨w2.heap.size + 1, 10, none⟩ = some (.slice cp k cc) := ((blk hS5.head).1 10).trans rfl
     have f10 := (blk hS5.head).2 10
     have cx3 : W5.cell? ⟨wr.heap.size, 3, none⟩ = some (.slice bp (fnU u k).blocks.length bc) := cx.trans rfl
     have z10 := lt_of_cell c10
     have z11 : w2.heap.size + 1 < W5.heap.size + 1 := by omega
     have z12 : wr.heap.size < W5.heap.size + 1 := by omega
     obtain ⟨_, _, nb1, nb2, _⟩ := hnb.out.fn hlt
     have hmk := run_make_row 46 3 i1 (.int .i64 0) underInts9 k1 k2 k3 rfl .i64 .i64 (fnU u k).blocks.length (by rw [k4]; omega) (by omega)
     have HS6 := hidI hS5
     clear hS5 cx cx' c5 f5 z5
     go_region_law (refine step_append_run rfl (.tmp 98) (.tmp 103) 94 94 rfl (.slice cp k cc) (.slice (some ⟨W5.heap.size + 1, 0, none⟩) 1 1) (by simp [Act.eval]) (by simp [Act.eval]) _ (HS6.out.cntStep (by omega) (by repeat (first | (with_reducible first | exact bR _ _ | exact bH ‹_› | refine bD ?_ | refine bN ?_ _ | refine bS ?_ ?_ _ | refine bA ?_ ?_ _ | refine bT hb3 ?_ ?_ | refine bT hb5 ?_ ?_ | refine bT hb4 ?_ ?_) | omega | (simp; omega) | simp)) (W5.heap.size + 1) (some ⟨W5.heap.size, 0, none⟩) (fnU u k).blocks.length (fnU u k).blocks.length ((cell_drew _ _).trans (((blk (heap_at (w := W5.alloc (.cells (madeCells #[.int .i64 0] (fnU u k).blocks.length) 3)) (by simp))).1 0).trans rfl))) ?_; rintro v'' w6 ⟨cp', cc', rfl, hown'', hgrow'', hat'', hh6⟩; have c6 : w6.cell? ⟨w2.heap.size + 1, 10, none⟩ = some (.slice cp k cc) := ((blk hh6).1 10).trans rfl; have f6 := (blk hh6).2 10; have z6 := lt_of_cell c6)
     all_goals
      have hS7 := fun hb hT => HS6.out.count (by omega) (T := W5.heap.size) hb hT (Nat.le_refl _) hown'' hgrow'' hat''
      obtain ⟨ro6, hS8⟩ := hS7 (by repeat (first | (with_reducible first | exact bR _ _ | exact bH ‹_› | refine bD ?_ | refine bN ?_ _ | refine bS ?_ ?_ _ | refine bA ?_ ?_ _ | refine bT hb3 ?_ ?_ | refine bT hb5 ?_ ?_ | refine bT hb4 ?_ ?_) | omega | (simp; omega) | simp)) (by
       have hm := World.rowIs_made W5 (.int .i64 0) (fnU u k).blocks.length 3
       first | exact hm.alloc _ | exact World.rowIs.alloc (w := W5.drew.alloc _) (World.rowIs_made W5.drew (.int .i64 0) (fnU u k).blocks.length 3) _)
      have HS8 := hidI hS8
      clear hS7 hS8 hown'' hgrow'' hat'' hh6
      go_wp2_with fail
      exact ⟨⟨k + 1, by omega, by go_num, ro6, _, _, _, _, _, HS8.out⟩, by simp [intOf]; omega⟩
    ·obtain rfl : k = u.funcs.length := by omega
     have hu0 := (hS.below.block w.heap.size (by omega)).trans HA0.out.1
     have hzu : w.heap.size < wr.heap.size := (Array.getElem?_eq_some_iff.1 hu0).1
     have cu1 : wr.cell? ⟨w.heap.size, 1, none⟩ = some (.slice fp u.funcs.length fc) := ((blk hu0).1 1).trans rfl
     obtain ⟨m, hm, hml⟩ := mainI_get HK.out
     have hix := fun W h => indexMain3_any u.funcs fp fc W (by omega) h
     simp only [hm] at hix
     obtain ⟨TA, ac', CT, cc', hCT, hWk⟩ := hS.walk (by omega) (by omega) (inp := inp) ⟨ip, ic, rfl, hic, hip, hI.mono HB0.out (by omega) fun _ _ g => g⟩
     have hu : UOk u := ⟨HK.out, hU⟩
     have HWk := hidI hWk
     have HU := hidI hu
     have HM := hidI hm
     have HFL : Hid (SliceAt W0 4 (FunR W0) fp u.funcs) := hidI (funsMono HF.out HB0.out)
     have HOk0 : Hid (StOk u ⟨memU u, inp, 0, 0, [], 0, [], fun _ _ => 0⟩) := hidI ⟨fun g hg => absurd hg (by simp), trivial, Nat.zero_le _, Nat.zero_le _, fun x hx => absurd hx (by simp), (memU_ok hu).1, (memU_ok hu).2, hinI, fun k b => ⟨Int.le_refl _, by simp⟩, I64.zero⟩
     have HIx := hidI hix
     clear hS hu0 hWk hu hix HS hm
     go_wp2_with fail
     refine (HIx.out _ (funsMono HF.out (HBx.out.trans (by repeat (first | (with_reducible first | exact bR _ _ | exact bH ‹_› | refine bD ?_ | refine bN ?_ _ | refine bS ?_ ?_ _ | refine bA ?_ ?_ _ | refine bT hb3 ?_ ?_ | refine bT hb5 ?_ ?_ | refine bT hb4 ?_ ?_) | omega | (simp; omega) | simp))))).mono ?_
     rintro e w3 ⟨rfl, hb3⟩
     obtain ⟨ro1, R1, iv1, ov1, fv1, hw3⟩ := HWk.out
     have HW3 := hidI (hw3.mono (w' := w3) (Below.trans (by repeat (first | (with_reducible first | exact bR _ _ | exact bH ‹_› | refine bD ?_ | refine bN ?_ _ | refine bS ?_ ?_ _ | refine bA ?_ ?_ _ | refine bT hb3 ?_ ?_ | refine bT hb5 ?_ ?_ | refine bT hb4 ?_ ?_) | omega | (simp; omega) | simp)) (hb3.mono (by first | omega | simp)))).walks
     clear hb3 hw3
     go_wp2_with fail
     refine (wenter_any HU.out HW3.out HOk0.out (by simp) HFL.out hml (-1) [] none 0 (by simp) (.inl rfl)).mono ?_
     rintro e w4 ⟨rfl, hw4⟩
     have HW4 := hidI hw4
     clear hw4
     go_wp2_with fail
     go_loopw [] (fun wr => ∃ s, Walks ⟨W0, w2.heap.size + 1, gp, fp, gc, fc, TA, ac', A, v, .slice mp (memU u).length mc, CT, cc', C⟩ u wr s ∧ StOk u s ∧ s.steps ≤ fuel ∧ s.frames ≠ [] ∧ s.inp.length ≤ 30 ∧ goS u (fuel - s.steps) s = runU u inp fuel) (fun wr => fuel - (intOf ((wr.cell? ⟨w2.heap.size + 1, 8, none⟩).getD (.int .i64 0))).toNat)
     case atStart => exact ⟨startS u inp m, HW4.out, start_ok HU.out hinI hml, Nat.zero_le _, by simp [startS, enterS], hin, by unfold runU; rw [HM.out]; rfl⟩
     case round =>
      obtain ⟨s, hWs, hok, hst, hne, hsi, hgo⟩ := hrel
      have hWs0 := hWs
      obtain ⟨ro2, R2, iv2, ov2, fv2, hs⟩ := hWs0
      have c8 : wr.cell? ⟨w2.heap.size + 1, 8, none⟩ = some (.int .i64 s.steps) := ((blk hs.head).1 8).trans rfl
      have z8 := lt_of_cell c8
      have HWs := hidI hs
      have HWs2 := hidI hWs
      have HOk := hidI hok
      have HNe := hidI hne
      have HGo := hidI hgo
      clear hs hWs hok hne hgo
      by_cases hfull : s.steps = fuel
      ·have hq : ((s.steps : Int) == (fuel : Int)) = true := by rw [hfull]; exact beq_self_eq_true _
       have HFull := hidI hfull
       clear hfull
       go_wp2_with fail
       refine (wstop_any HWs.out 1).mono ?_
       rintro e w5 ⟨rfl, hw5⟩
       have HFin : Hid ({ s with state := 1 } = runU u inp fuel) := by
        have h := HGo.out
        rw [HFull.out, Nat.sub_self] at h
        exact h
       have HOkF : Hid (StOk u { s with state := 1 }) := by
        have h := HOk.out
        exact ⟨h.frs, h.dst, h.few, h.outs, h.outI, h.mem, h.memI, h.inpI, h.cnt, h.val⟩
       generalize ({ s with state := 1 } : StL) = sF at *
       obtain ⟨op, oc, hov⟩ := own_slice hw5.outO
       subst hov
       have hw6 := hw5
       have hh5 := hw5.head
       have g0 := (hw5.below.block (w.heap.size + 1) (show w.heap.size + 1 < W0.heap.size by omega)).trans HA0.out.2.1
       have g1 := (hw5.below.block (w.heap.size + 1 + 1) (show w.heap.size + 1 + 1 < W0.heap.size by omega)).trans HA0.out.2.2
       have HW5 := hidI hw5
       have y0 := (Array.getElem?_eq_some_iff.1 g0).1
       have y1 := (Array.getElem?_eq_some_iff.1 g1).1
       obtain ⟨hhc, hhf⟩ := blk hh5
       have d4 : w5.cell? ⟨w2.heap.size + 1, 5, none⟩ = some (.int .i64 sF.state) := (hhc 5).trans rfl
       have d5 : w5.cell? ⟨w2.heap.size + 1, 6, none⟩ = some (.int .i64 sF.value) := (hhc 6).trans rfl
       have d6 : w5.cell? ⟨w2.heap.size + 1, 7, none⟩ = some (.slice op sF.outs.length oc) := (hhc 7).trans rfl
       have d7 : w5.cell? ⟨w2.heap.size + 1, 8, none⟩ = some (.int .i64 sF.steps) := (hhc 8).trans rfl
       have d10 : w5.cell? ⟨w2.heap.size + 1, 10, none⟩ = some (.slice (some ⟨CT, 0, none⟩) u.funcs.length cc') := (hhc 10).trans rfl
       have y2 := lt_of_cell d4
       obtain ⟨g0c, g0f⟩ := blk g0
       obtain ⟨g1c, g1f⟩ := blk g1
       have p0 : w5.cell? ⟨w.heap.size + 1, 0, none⟩ = some (.int .i64 0) := (g0c 0).trans rfl
       have p1 : w5.cell? ⟨w.heap.size + 1, 1, none⟩ = some (.int .i64 0) := (g0c 1).trans rfl
       have p2 : w5.cell? ⟨w.heap.size + 1, 2, none⟩ = some (.slice none 0 0) := (g0c 2).trans rfl
       have p3 : w5.cell? ⟨w.heap.size + 1, 3, none⟩ = some (.int .i64 0) := (g0c 3).trans rfl
       have p4 : w5.cell? ⟨w.heap.size + 1 + 1, 0, none⟩ = some (.int .i64 0) := (g1c 0).trans rfl
       have p5 : w5.cell? ⟨w.heap.size + 1 + 1, 1, none⟩ = some (.int .i64 0) := (g1c 1).trans rfl
       have G0 := hidI g0
       have G1 := hidI g1
       clear g0 g1 g0c g1c
       clear hw5 hw6 hh5 hhc hhf
       go_wp2_with fail
       go_region
       go_wp2
       have HW5' := HW5.out
       have HB5 : Hid (Below w.heap.size w w5) := HB0.out.trans (HW5'.below.mono HB0.out.size)
       have hsix := six_stores (show w.heap.size + 1 ≠ w.heap.size + 1 + 1 by omega) G0.out G1.out (.int .i64 sF.state) (.int .i64 sF.value) (.slice op sF.outs.length oc) (.int .i64 (sF.steps : Int)) (.int .i64 0) (.int .i64 0) (B := w.heap.size) (by omega) (by omega)
       generalize ((((((w5.setCell ⟨w.heap.size + 1, 0, none⟩ (.int .i64 sF.state)).setCell ⟨w.heap.size + 1, 1, none⟩ (.int .i64 sF.value)).setCell ⟨w.heap.size + 1, 2, none⟩ (.slice op sF.outs.length oc)).setCell ⟨w.heap.size + 1, 3, none⟩ (.int .i64 (sF.steps : Int))).setCell ⟨w.heap.size + 1 + 1, 0, none⟩ (.int .i64 0)).setCell ⟨w.heap.size + 1 + 1, 1, none⟩ (.int .i64 0)).drew = WF at *
       obtain ⟨q0, q1, hB, hb6⟩ := hsix
       have q2 := (blk q0).1
       have q3 := (blk q1).1
       refine bodyPost_ret (v := .tuple #[.slice (some ⟨CT, 0, none⟩) u.funcs.length cc', .agg #[.int .i64 sF.state, .int .i64 sF.value, .slice op sF.outs.length oc, .int .i64 sF.steps], .agg #[.int .i64 0, .int .i64 0]]) ?_ rfl ⟨CT, cc', op, oc, by rw [← HFin.out], ?_, ?_⟩
       ·simp [results, Tryd.results47, go_sem, q2, q3]
       ·rw [← HFin.out]
        exact HW5'.result HOkF.out.outI hCT HB0.out.size fun b hb => hB b (by have e : W0.heap.size ≤ b := hb; omega) (by have e : W0.heap.size ≤ b := hb; omega)
       ·exact HB5.out.trans hb6
      ·have hlt2 : s.steps < fuel := by omega
       have hq : ((s.steps : Int) == (fuel : Int)) = false := by rw [beq_eq_false_iff_ne]; omega
       clear hfull
       go_wp2_with fail
       refine (wstep_any HU.out HWs2.out HOk.out (by omega) (by omega) HFL.out HNe.out).mono ?_
       rintro e w5 ⟨rfl, hw5⟩
       obtain ⟨hk1, hk2⟩ := step_keeps (u := u) HNe.out
       have hgo2 : goS u (fuel - (s.steps + 1) + 1) s = runU u inp fuel := by
        rw [← HGo.out]
        congr 1
        omega
       unfold goS at hgo2
       have HOkF := hidI (step_ok HU.out HOk.out)
       have HW6 := hidI hw5
       cases hb : (stepS u s).2 with
       | true =>
        have HMore := hidI (step_more hb HNe.out)
        rw [if_pos hb, ← hk1] at hgo2
        have HGo2 := hidI hgo2
        clear hgo2 hb hw5 hq
        generalize (stepS u s).1 = sN at *
        go_wp2_with fail
        obtain ⟨ro5, R5, iv5, ov5, fv5, hw5⟩ := HW6.out
        have d8 : w5.cell? ⟨w2.heap.size + 1, 8, none⟩ = some (.int .i64 sN.steps) := ((blk hw5.head).1 8).trans rfl
        refine ⟨⟨sN, HW6.out, HOkF.out, by omega, HMore.out, by omega, HGo2.out⟩, ?_⟩
        rw [c8, d8]
        simp only [Option.getD_some, intOf, Int.toNat_natCast]
        omega
       | false =>
        rw [if_neg (by rw [hb]; simp)] at hgo2
        have HFin := hidI hgo2
        clear hgo2 hb hw5 hq c8 hk1 hk2
        generalize (stepS u s).1 = sF at *
        obtain ⟨ro2, R2, iv2, ov2, fv2, hw5⟩ := HW6.out
        go_wp2_with fail
        obtain ⟨op, oc, hov⟩ := own_slice hw5.outO
        subst hov
        have hw6 := hw5
        have hh5 := hw5.head
        have g0 := (hw5.below.block (w.heap.size + 1) (show w.heap.size + 1 < W0.heap.size by omega)).trans HA0.out.2.1
        have g1 := (hw5.below.block (w.heap.size + 1 + 1) (show w.heap.size + 1 + 1 < W0.heap.size by omega)).trans HA0.out.2.2
        have HW5 := hidI hw5
        have y0 := (Array.getElem?_eq_some_iff.1 g0).1
        have y1 := (Array.getElem?_eq_some_iff.1 g1).1
        obtain ⟨hhc, hhf⟩ := blk hh5
        have d4 : w5.cell? ⟨w2.heap.size + 1, 5, none⟩ = some (.int .i64 sF.state) := (hhc 5).trans rfl
        have d5 : w5.cell? ⟨w2.heap.size + 1, 6, none⟩ = some (.int .i64 sF.value) := (hhc 6).trans rfl
        have d6 : w5.cell? ⟨w2.heap.size + 1, 7, none⟩ = some (.slice op sF.outs.length oc) := (hhc 7).trans rfl
        have d7 : w5.cell? ⟨w2.heap.size + 1, 8, none⟩ = some (.int .i64 sF.steps) := (hhc 8).trans rfl
        have d10 : w5.cell? ⟨w2.heap.size + 1, 10, none⟩ = some (.slice (some ⟨CT, 0, none⟩) u.funcs.length cc') := (hhc 10).trans rfl
        have y2 := lt_of_cell d4
        obtain ⟨g0c, g0f⟩ := blk g0
        obtain ⟨g1c, g1f⟩ := blk g1
        have p0 : w5.cell? ⟨w.heap.size + 1, 0, none⟩ = some (.int .i64 0) := (g0c 0).trans rfl
        have p1 : w5.cell? ⟨w.heap.size + 1, 1, none⟩ = some (.int .i64 0) := (g0c 1).trans rfl
        have p2 : w5.cell? ⟨w.heap.size + 1, 2, none⟩ = some (.slice none 0 0) := (g0c 2).trans rfl
        have p3 : w5.cell? ⟨w.heap.size + 1, 3, none⟩ = some (.int .i64 0) := (g0c 3).trans rfl
        have p4 : w5.cell? ⟨w.heap.size + 1 + 1, 0, none⟩ = some (.int .i64 0) := (g1c 0).trans rfl
        have p5 : w5.cell? ⟨w.heap.size + 1 + 1, 1, none⟩ = some (.int .i64 0) := (g1c 1).trans rfl
        have G0 := hidI g0
        have G1 := hidI g1
        clear g0 g1 g0c g1c
        clear hw5 hw6 hh5 hhc hhf
        go_wp2_with fail
        go_region
        go_wp2
        have HW5' := HW5.out
        have HB5 : Hid (Below w.heap.size w w5) := HB0.out.trans (HW5'.below.mono HB0.out.size)
        have hsix := six_stores (show w.heap.size + 1 ≠ w.heap.size + 1 + 1 by omega) G0.out G1.out (.int .i64 sF.state) (.int .i64 sF.value) (.slice op sF.outs.length oc) (.int .i64 (sF.steps : Int)) (.int .i64 0) (.int .i64 0) (B := w.heap.size) (by omega) (by omega)
        generalize ((((((w5.setCell ⟨w.heap.size + 1, 0, none⟩ (.int .i64 sF.state)).setCell ⟨w.heap.size + 1, 1, none⟩ (.int .i64 sF.value)).setCell ⟨w.heap.size + 1, 2, none⟩ (.slice op sF.outs.length oc)).setCell ⟨w.heap.size + 1, 3, none⟩ (.int .i64 (sF.steps : Int))).setCell ⟨w.heap.size + 1 + 1, 0, none⟩ (.int .i64 0)).setCell ⟨w.heap.size + 1 + 1, 1, none⟩ (.int .i64 0)).drew = WF at *
        obtain ⟨q0, q1, hB, hb6⟩ := hsix
        have q2 := (blk q0).1
        have q3 := (blk q1).1
        refine bodyPost_ret (v := .tuple #[.slice (some ⟨CT, 0, none⟩) u.funcs.length cc', .agg #[.int .i64 sF.state, .int .i64 sF.value, .slice op sF.outs.length oc, .int .i64 sF.steps], .agg #[.int .i64 0, .int .i64 0]]) ?_ rfl ⟨CT, cc', op, oc, by rw [← HFin.out], ?_, ?_⟩
        ·simp [results, Tryd.results47, go_sem, q2, q3]
        ·rw [← HFin.out]
         exact HW5'.result HOkF.out.outI hCT HB0.out.size fun b hb => hB b (by have e : W0.heap.size ≤ b := hb; omega) (by have e : W0.heap.size ≤ b := hb; omega)
        ·exact HB5.out.trans hb6
end Go.Proofs.YtdjamkinijhjoaaDoor
