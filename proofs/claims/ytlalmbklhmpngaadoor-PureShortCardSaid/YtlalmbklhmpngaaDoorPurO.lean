/-
  PureSilent, PureSafe, PureFlat: the walks of the laws.
-/
import Derived.Test.YtlalmbklhmpngaaDoorPurN
import Derived.WalkKit
import Derived.WalkSpells
import Derived.WalkLawsBesides
namespace Go.Proofs.YtlalmbklhmpngaaDoor
open Go.RowKit

theorem mainM_fine {u : UniL} {inp : List Int} {fuel : Int} (h : (runF u inp.length fuel).1 = 0) : ∃ m, mainI u.funcs = some m ∧ m < u.funcs.length ∧ mainM u = maskI (maskB u m) := by
  have hc := (runF_zero h).1
  obtain ⟨m, hm, hml⟩ := mainI_get (chk_ok hc).2
  refine ⟨m, hm, hml, ?_⟩
  unfold mainM
  rw [if_pos hc, hm]
  rfl
theorem runO_fine' {u : UniL} {inp : List Int} {fuel : Int} (h : (runF u inp.length fuel).1 = 0) : runO u inp fuel = runU u inp fuel.toNat := by unfold runO; rw [if_pos h]
theorem ints_in {w : World} {p : Option Addr} {inp : List Int} (h : SliceAt w 1 IntR p inp) : ∀ x ∈ inp, I64 x := fun _ hx => (slice_mem h hx).elim fun _ h => h.2

set_option maxRecDepth 100000 in
set_option maxHeartbeats 1000000 in
theorem silent_un {u : UniL} {gp fp : Option Addr} {gc fc : Nat} {w : World} (hUn : UnA u gp fp w) (inp : List Int) (lp : Option Addr) (lc : Nat) (fuel : Int) (hI : SliceAt w 1 IntR lp inp) (hic : inp.length ≤ lc) (hip : lp = none → lc = 0) :
    Calls Tryd.prog 10 #[.agg #[.slice gp u.globals.length gc, .slice fp u.funcs.length fc], .slice lp inp.length lc, .int .i64 fuel] w fun e w' => e = .returned (.bool true) ∧ Below w.heap.size w w' := by
  have HUn := hidI hUn
  have HI := hidI hI
  clear hUn hI
  go_enter Tryd.func10, Tryd.ntmps10
  go_wp2_with fail
  refine (told_any (HUn.out.ways.below (by repeat (first | with_reducible exact Below.refl _ _ | with_reducible exact HB3.out | with_reducible refine Below.drew ?_ | with_reducible refine below_drewN ?_ _ | with_reducible refine Below.setCell ?_ ?_ _ | with_reducible refine Below.alloc ?_ ?_ _ | with_reducible exact HB2.out | with_reducible exact HB1.out | with_reducible refine Below.trans ?_ (Below.mono hb3 ?_) | with_reducible refine Below.trans ?_ (Below.mono hb5 ?_) | with_reducible refine Below.trans ?_ (Below.mono hb4 ?_) | omega | (simp; omega) | simp)))).mono ?_
  rintro e w2 ⟨rfl, hb2⟩
  have HB1 : Hid (Below w.heap.size w w2) := Below.trans (by repeat (first | with_reducible exact Below.refl _ _ | with_reducible exact HB3.out | with_reducible refine Below.drew ?_ | with_reducible refine below_drewN ?_ _ | with_reducible refine Below.setCell ?_ ?_ _ | with_reducible refine Below.alloc ?_ ?_ _ | with_reducible exact HB2.out | with_reducible exact HB1.out | with_reducible refine Below.trans ?_ (Below.mono hb3 ?_) | with_reducible refine Below.trans ?_ (Below.mono hb5 ?_) | with_reducible refine Below.trans ?_ (Below.mono hb4 ?_) | omega | (simp; omega) | simp)) (hb2.mono (by first | (simp; done) | (simp; omega)))
  obtain ⟨hcu, _⟩ := blk (heap_below hb2 (k := w.heap.size) (by first | (simp; done) | (simp; omega)) (heap_here w _))
  have z2 : w.heap.size < w2.heap.size := by have := hb2.size; simp at this; omega
  clear hb2
  go_wp2_with fail
  refine (pmain_any (HUn.out.mono HB1.out)).mono ?_
  rintro e w3 ⟨rfl, hb3⟩
  have HB2 : Hid (Below w.heap.size w w3) := HB1.out.trans (hb3.mono HB1.out.size)
  replace hcu := fun o => (hb3.cell (p := ⟨w.heap.size, o, none⟩) z2).trans (hcu o)
  have z3 : w.heap.size < w3.heap.size := by have := hb3.size; omega
  clear hb3
  go_wp2_with fail
  refine (do_any (HUn.out.mono HB2.out) inp lp lc fuel (HI.out.mono HB2.out (by omega) fun _ _ g => g) hic hip).mono ?_
  rintro e w4 ⟨p, c, rfl, _, _, hb4⟩
  have HB3 : Hid (Below w.heap.size w w4) := HB2.out.trans (hb4.mono HB2.out.size)
  have z4 : w.heap.size < w4.heap.size := by have := hb4.size; omega
  clear hb4 hcu
  by_cases hF : (runF u inp.length fuel).1 = 0
  · have hq : ((runF u inp.length fuel).1 != (0 : Int)) = false := by rw [hF]; rfl
    obtain ⟨m, hm, hml, hp⟩ := mainM_fine hF
    have hU : UOk u := ⟨(chk_ok (runF_zero hF).1).2, U64.of HUn.out⟩
    have hlt := maskI_lt (maskB u m)
    rw [← hp] at hlt
    have hn : decide (mainM u < 0) = false := by rw [decide_eq_false_iff_not]; omega
    have hand := and_bit (maskB u m) 1 (by omega)
    rw [← hp, bit1] at hand
    cases hbit : maskB u m 1 with
    | false =>
      have hq6 : (bits .and .i64 (mainM u) 2 != (0 : Int)) = false := by rw [hand.2 hbit]; rfl
      have hs := silent_run hU hm (ints_in HI.out) hbit fuel.toNat
      rw [← runO_fine' hF] at hs
      have hl : (runO u inp fuel).outs.length = 0 := by rw [hs.1]; rfl
      have hq5 : ((runO u inp fuel).state != (5 : Int)) = true := by rw [bne_iff_ne]; exact hs.2
      clear hF hand hp hU hs hm hbit
      go_wp2_with fail
      go_ret
      exact ⟨rfl, by repeat (first | with_reducible exact Below.refl _ _ | with_reducible exact HB3.out | with_reducible refine Below.drew ?_ | with_reducible refine below_drewN ?_ _ | with_reducible refine Below.setCell ?_ ?_ _ | with_reducible refine Below.alloc ?_ ?_ _ | with_reducible exact HB2.out | with_reducible exact HB1.out | with_reducible refine Below.trans ?_ (Below.mono hb3 ?_) | with_reducible refine Below.trans ?_ (Below.mono hb5 ?_) | with_reducible refine Below.trans ?_ (Below.mono hb4 ?_) | omega | (simp; omega) | simp)⟩
    | true =>
      have hq6 : (bits .and .i64 (mainM u) 2 != (0 : Int)) = true := by
        rw [bne_iff_ne]
        intro e
        rw [hand.1 e] at hbit
        cases hbit
      clear hF hand hp hU hm hbit
      go_wp2_with fail
      go_ret
      exact ⟨rfl, by repeat (first | with_reducible exact Below.refl _ _ | with_reducible exact HB3.out | with_reducible refine Below.drew ?_ | with_reducible refine below_drewN ?_ _ | with_reducible refine Below.setCell ?_ ?_ _ | with_reducible refine Below.alloc ?_ ?_ _ | with_reducible exact HB2.out | with_reducible exact HB1.out | with_reducible refine Below.trans ?_ (Below.mono hb3 ?_) | with_reducible refine Below.trans ?_ (Below.mono hb5 ?_) | with_reducible refine Below.trans ?_ (Below.mono hb4 ?_) | omega | (simp; omega) | simp)⟩
  · have hq : ((runF u inp.length fuel).1 != (0 : Int)) = true := by rw [bne_iff_ne]; exact hF
    clear hF
    go_wp2_with fail
    go_ret
    exact ⟨rfl, by repeat (first | with_reducible exact Below.refl _ _ | with_reducible exact HB3.out | with_reducible refine Below.drew ?_ | with_reducible refine below_drewN ?_ _ | with_reducible refine Below.setCell ?_ ?_ _ | with_reducible refine Below.alloc ?_ ?_ _ | with_reducible exact HB2.out | with_reducible exact HB1.out | with_reducible refine Below.trans ?_ (Below.mono hb3 ?_) | with_reducible refine Below.trans ?_ (Below.mono hb5 ?_) | with_reducible refine Below.trans ?_ (Below.mono hb4 ?_) | omega | (simp; omega) | simp)⟩
theorem silent_all (u : UniL) (gp fp : Option Addr) (gc fc : Nat) (xs : List Int) (lp : Option Addr) (lc : Nat) (n : Int) (w : World) (hgl : u.globals.length * 48 ≤ 140737488351232) (hG : SliceAt w 3 (GloR w) gp u.globals) (hfl : u.funcs.length * 56 ≤ 140737488351232) (hF : SliceAt w 4 (FunR w) fp u.funcs) (hw0 : Ways w) (hln : lp = none → xs.length = 0 ∧ lc = 0) (hlc : xs.length ≤ lc) (_ : lc * 8 ≤ reachBytes) (hls : SliceAt w 1 IntR lp xs) (_ : I64 n) :
    Calls Tryd.prog 10 #[.agg #[.slice gp u.globals.length gc, .slice fp u.funcs.length fc], .slice lp xs.length lc, .int .i64 n] w fun e w' => e = .returned (.bool true) ∧ Below w.heap.size w w' :=
  silent_un ⟨hgl, hG, hfl, hF, hw0⟩ xs lp lc n hls hlc (fun e => (hln e).2)

set_option maxRecDepth 100000 in
set_option maxHeartbeats 1000000 in
theorem safe_un {u : UniL} {gp fp : Option Addr} {gc fc : Nat} {w : World} (hUn : UnA u gp fp w) (inp : List Int) (lp : Option Addr) (lc : Nat) (fuel : Int) (hI : SliceAt w 1 IntR lp inp) (hic : inp.length ≤ lc) (hip : lp = none → lc = 0) :
    Calls Tryd.prog 12 #[.agg #[.slice gp u.globals.length gc, .slice fp u.funcs.length fc], .slice lp inp.length lc, .int .i64 fuel] w fun e w' => e = .returned (.bool true) ∧ Below w.heap.size w w' := by
  have HUn := hidI hUn
  have HI := hidI hI
  clear hUn hI
  go_enter Tryd.func12, Tryd.ntmps12
  go_wp2_with fail
  refine (told_any (HUn.out.ways.below (by repeat (first | with_reducible exact Below.refl _ _ | with_reducible exact HB3.out | with_reducible refine Below.drew ?_ | with_reducible refine below_drewN ?_ _ | with_reducible refine Below.setCell ?_ ?_ _ | with_reducible refine Below.alloc ?_ ?_ _ | with_reducible exact HB2.out | with_reducible exact HB1.out | with_reducible refine Below.trans ?_ (Below.mono hb3 ?_) | with_reducible refine Below.trans ?_ (Below.mono hb5 ?_) | with_reducible refine Below.trans ?_ (Below.mono hb4 ?_) | omega | (simp; omega) | simp)))).mono ?_
  rintro e w2 ⟨rfl, hb2⟩
  have HB1 : Hid (Below w.heap.size w w2) := Below.trans (by repeat (first | with_reducible exact Below.refl _ _ | with_reducible exact HB3.out | with_reducible refine Below.drew ?_ | with_reducible refine below_drewN ?_ _ | with_reducible refine Below.setCell ?_ ?_ _ | with_reducible refine Below.alloc ?_ ?_ _ | with_reducible exact HB2.out | with_reducible exact HB1.out | with_reducible refine Below.trans ?_ (Below.mono hb3 ?_) | with_reducible refine Below.trans ?_ (Below.mono hb5 ?_) | with_reducible refine Below.trans ?_ (Below.mono hb4 ?_) | omega | (simp; omega) | simp)) (hb2.mono (by first | (simp; done) | (simp; omega)))
  obtain ⟨hcu, _⟩ := blk (heap_below hb2 (k := w.heap.size) (by first | (simp; done) | (simp; omega)) (heap_here w _))
  have z2 : w.heap.size < w2.heap.size := by have := hb2.size; simp at this; omega
  clear hb2
  go_wp2_with fail
  refine (pmain_any (HUn.out.mono HB1.out)).mono ?_
  rintro e w3 ⟨rfl, hb3⟩
  have HB2 : Hid (Below w.heap.size w w3) := HB1.out.trans (hb3.mono HB1.out.size)
  replace hcu := fun o => (hb3.cell (p := ⟨w.heap.size, o, none⟩) z2).trans (hcu o)
  have z3 : w.heap.size < w3.heap.size := by have := hb3.size; omega
  clear hb3
  go_wp2_with fail
  refine (do_any (HUn.out.mono HB2.out) inp lp lc fuel (HI.out.mono HB2.out (by omega) fun _ _ g => g) hic hip).mono ?_
  rintro e w4 ⟨p, c, rfl, _, _, hb4⟩
  have HB3 : Hid (Below w.heap.size w w4) := HB2.out.trans (hb4.mono HB2.out.size)
  have z4 : w.heap.size < w4.heap.size := by have := hb4.size; omega
  clear hb4 hcu
  by_cases hF : (runF u inp.length fuel).1 = 0
  · have hq : ((runF u inp.length fuel).1 != (0 : Int)) = false := by rw [hF]; rfl
    obtain ⟨m, hm, hml, hp⟩ := mainM_fine hF
    have hU : UOk u := ⟨(chk_ok (runF_zero hF).1).2, U64.of HUn.out⟩
    have hlt := maskI_lt (maskB u m)
    rw [← hp] at hlt
    have hn : decide (mainM u < 0) = false := by rw [decide_eq_false_iff_not]; omega
    have hand := and_bit (maskB u m) 4 (by omega)
    rw [← hp, bit4] at hand
    cases hbit : maskB u m 4 with
    | false =>
      have hq6 : (bits .and .i64 (mainM u) 16 != (0 : Int)) = false := by rw [hand.2 hbit]; rfl
      have hs := safe_run hU hm (ints_in HI.out) hbit fuel.toNat
      rw [← runO_fine' hF] at hs
      have hq2 : ((runO u inp fuel).state != (2 : Int)) = true := by rw [bne_iff_ne]; exact hs.1
      have hq3 : ((runO u inp fuel).state != (3 : Int)) = true := by rw [bne_iff_ne]; exact hs.2
      clear hF hand hp hU hs hm hbit
      go_wp2_with fail
      go_ret
      exact ⟨rfl, by repeat (first | with_reducible exact Below.refl _ _ | with_reducible exact HB3.out | with_reducible refine Below.drew ?_ | with_reducible refine below_drewN ?_ _ | with_reducible refine Below.setCell ?_ ?_ _ | with_reducible refine Below.alloc ?_ ?_ _ | with_reducible exact HB2.out | with_reducible exact HB1.out | with_reducible refine Below.trans ?_ (Below.mono hb3 ?_) | with_reducible refine Below.trans ?_ (Below.mono hb5 ?_) | with_reducible refine Below.trans ?_ (Below.mono hb4 ?_) | omega | (simp; omega) | simp)⟩
    | true =>
      have hq6 : (bits .and .i64 (mainM u) 16 != (0 : Int)) = true := by
        rw [bne_iff_ne]
        intro e
        rw [hand.1 e] at hbit
        cases hbit
      clear hF hand hp hU hm hbit
      go_wp2_with fail
      go_ret
      exact ⟨rfl, by repeat (first | with_reducible exact Below.refl _ _ | with_reducible exact HB3.out | with_reducible refine Below.drew ?_ | with_reducible refine below_drewN ?_ _ | with_reducible refine Below.setCell ?_ ?_ _ | with_reducible refine Below.alloc ?_ ?_ _ | with_reducible exact HB2.out | with_reducible exact HB1.out | with_reducible refine Below.trans ?_ (Below.mono hb3 ?_) | with_reducible refine Below.trans ?_ (Below.mono hb5 ?_) | with_reducible refine Below.trans ?_ (Below.mono hb4 ?_) | omega | (simp; omega) | simp)⟩
  · have hq : ((runF u inp.length fuel).1 != (0 : Int)) = true := by rw [bne_iff_ne]; exact hF
    clear hF
    go_wp2_with fail
    go_ret
    exact ⟨rfl, by repeat (first | with_reducible exact Below.refl _ _ | with_reducible exact HB3.out | with_reducible refine Below.drew ?_ | with_reducible refine below_drewN ?_ _ | with_reducible refine Below.setCell ?_ ?_ _ | with_reducible refine Below.alloc ?_ ?_ _ | with_reducible exact HB2.out | with_reducible exact HB1.out | with_reducible refine Below.trans ?_ (Below.mono hb3 ?_) | with_reducible refine Below.trans ?_ (Below.mono hb5 ?_) | with_reducible refine Below.trans ?_ (Below.mono hb4 ?_) | omega | (simp; omega) | simp)⟩
theorem safe_all (u : UniL) (gp fp : Option Addr) (gc fc : Nat) (xs : List Int) (lp : Option Addr) (lc : Nat) (n : Int) (w : World) (hgl : u.globals.length * 48 ≤ 140737488351232) (hG : SliceAt w 3 (GloR w) gp u.globals) (hfl : u.funcs.length * 56 ≤ 140737488351232) (hF : SliceAt w 4 (FunR w) fp u.funcs) (hw0 : Ways w) (hln : lp = none → xs.length = 0 ∧ lc = 0) (hlc : xs.length ≤ lc) (_ : lc * 8 ≤ reachBytes) (hls : SliceAt w 1 IntR lp xs) (_ : I64 n) :
    Calls Tryd.prog 12 #[.agg #[.slice gp u.globals.length gc, .slice fp u.funcs.length fc], .slice lp xs.length lc, .int .i64 n] w fun e w' => e = .returned (.bool true) ∧ Below w.heap.size w w' :=
  safe_un ⟨hgl, hG, hfl, hF, hw0⟩ xs lp lc n hls hlc (fun e => (hln e).2)

set_option maxRecDepth 100000 in
set_option maxHeartbeats 1000000 in
theorem flat_un {u : UniL} {gp fp : Option Addr} {gc fc : Nat} {w : World} (hUn : UnA u gp fp w) (inp : List Int) (lp : Option Addr) (lc : Nat) (fuel : Int) (hI : SliceAt w 1 IntR lp inp) (hic : inp.length ≤ lc) (hip : lp = none → lc = 0) :
    Calls Tryd.prog 13 #[.agg #[.slice gp u.globals.length gc, .slice fp u.funcs.length fc], .slice lp inp.length lc, .int .i64 fuel] w fun e w' => e = .returned (.bool true) ∧ Below w.heap.size w w' := by
  have HUn := hidI hUn
  have HI := hidI hI
  clear hUn hI
  go_enter Tryd.func13, Tryd.ntmps13
  go_wp2_with fail
  refine (told_any (HUn.out.ways.below (by repeat (first | with_reducible exact Below.refl _ _ | with_reducible exact HB3.out | with_reducible refine Below.drew ?_ | with_reducible refine below_drewN ?_ _ | with_reducible refine Below.setCell ?_ ?_ _ | with_reducible refine Below.alloc ?_ ?_ _ | with_reducible exact HB2.out | with_reducible exact HB1.out | with_reducible refine Below.trans ?_ (Below.mono hb3 ?_) | with_reducible refine Below.trans ?_ (Below.mono hb5 ?_) | with_reducible refine Below.trans ?_ (Below.mono hb4 ?_) | omega | (simp; omega) | simp)))).mono ?_
  rintro e w2 ⟨rfl, hb2⟩
  have HB1 : Hid (Below w.heap.size w w2) := Below.trans (by repeat (first | with_reducible exact Below.refl _ _ | with_reducible exact HB3.out | with_reducible refine Below.drew ?_ | with_reducible refine below_drewN ?_ _ | with_reducible refine Below.setCell ?_ ?_ _ | with_reducible refine Below.alloc ?_ ?_ _ | with_reducible exact HB2.out | with_reducible exact HB1.out | with_reducible refine Below.trans ?_ (Below.mono hb3 ?_) | with_reducible refine Below.trans ?_ (Below.mono hb5 ?_) | with_reducible refine Below.trans ?_ (Below.mono hb4 ?_) | omega | (simp; omega) | simp)) (hb2.mono (by first | (simp; done) | (simp; omega)))
  obtain ⟨hcu, _⟩ := blk (heap_below hb2 (k := w.heap.size) (by first | (simp; done) | (simp; omega)) (heap_here w _))
  have z2 : w.heap.size < w2.heap.size := by have := hb2.size; simp at this; omega
  clear hb2
  go_wp2_with fail
  refine (pmain_any (HUn.out.mono HB1.out)).mono ?_
  rintro e w3 ⟨rfl, hb3⟩
  have HB2 : Hid (Below w.heap.size w w3) := HB1.out.trans (hb3.mono HB1.out.size)
  replace hcu := fun o => (hb3.cell (p := ⟨w.heap.size, o, none⟩) z2).trans (hcu o)
  have z3 : w.heap.size < w3.heap.size := by have := hb3.size; omega
  clear hb3
  go_wp2_with fail
  refine (do_any (HUn.out.mono HB2.out) inp lp lc fuel (HI.out.mono HB2.out (by omega) fun _ _ g => g) hic hip).mono ?_
  rintro e w4 ⟨p, c, rfl, _, _, hb4⟩
  have HB3 : Hid (Below w.heap.size w w4) := HB2.out.trans (hb4.mono HB2.out.size)
  have z4 : w.heap.size < w4.heap.size := by have := hb4.size; omega
  clear hb4 hcu
  by_cases hF : (runF u inp.length fuel).1 = 0
  · have hq : ((runF u inp.length fuel).1 != (0 : Int)) = false := by rw [hF]; rfl
    obtain ⟨m, hm, hml, hp⟩ := mainM_fine hF
    have hU : UOk u := ⟨(chk_ok (runF_zero hF).1).2, U64.of HUn.out⟩
    have hlt := maskI_lt (maskB u m)
    rw [← hp] at hlt
    have hn : decide (mainM u < 0) = false := by rw [decide_eq_false_iff_not]; omega
    have hand := and_bit (maskB u m) 5 (by omega)
    rw [← hp, bit5] at hand
    cases hbit : maskB u m 5 with
    | false =>
      have hq6 : (bits .and .i64 (mainM u) 32 != (0 : Int)) = false := by rw [hand.2 hbit]; rfl
      have hs := flat_run hU hm (ints_in HI.out) hbit fuel.toNat
      rw [← runO_fine' hF] at hs
      have hq4 : ((runO u inp fuel).state != (4 : Int)) = true := by rw [bne_iff_ne]; exact hs
      clear hF hand hp hU hs hm hbit
      go_wp2_with fail
      go_ret
      exact ⟨rfl, by repeat (first | with_reducible exact Below.refl _ _ | with_reducible exact HB3.out | with_reducible refine Below.drew ?_ | with_reducible refine below_drewN ?_ _ | with_reducible refine Below.setCell ?_ ?_ _ | with_reducible refine Below.alloc ?_ ?_ _ | with_reducible exact HB2.out | with_reducible exact HB1.out | with_reducible refine Below.trans ?_ (Below.mono hb3 ?_) | with_reducible refine Below.trans ?_ (Below.mono hb5 ?_) | with_reducible refine Below.trans ?_ (Below.mono hb4 ?_) | omega | (simp; omega) | simp)⟩
    | true =>
      have hq6 : (bits .and .i64 (mainM u) 32 != (0 : Int)) = true := by
        rw [bne_iff_ne]
        intro e
        rw [hand.1 e] at hbit
        cases hbit
      clear hF hand hp hU hm hbit
      go_wp2_with fail
      go_ret
      exact ⟨rfl, by repeat (first | with_reducible exact Below.refl _ _ | with_reducible exact HB3.out | with_reducible refine Below.drew ?_ | with_reducible refine below_drewN ?_ _ | with_reducible refine Below.setCell ?_ ?_ _ | with_reducible refine Below.alloc ?_ ?_ _ | with_reducible exact HB2.out | with_reducible exact HB1.out | with_reducible refine Below.trans ?_ (Below.mono hb3 ?_) | with_reducible refine Below.trans ?_ (Below.mono hb5 ?_) | with_reducible refine Below.trans ?_ (Below.mono hb4 ?_) | omega | (simp; omega) | simp)⟩
  · have hq : ((runF u inp.length fuel).1 != (0 : Int)) = true := by rw [bne_iff_ne]; exact hF
    clear hF
    go_wp2_with fail
    go_ret
    exact ⟨rfl, by repeat (first | with_reducible exact Below.refl _ _ | with_reducible exact HB3.out | with_reducible refine Below.drew ?_ | with_reducible refine below_drewN ?_ _ | with_reducible refine Below.setCell ?_ ?_ _ | with_reducible refine Below.alloc ?_ ?_ _ | with_reducible exact HB2.out | with_reducible exact HB1.out | with_reducible refine Below.trans ?_ (Below.mono hb3 ?_) | with_reducible refine Below.trans ?_ (Below.mono hb5 ?_) | with_reducible refine Below.trans ?_ (Below.mono hb4 ?_) | omega | (simp; omega) | simp)⟩
theorem flat_all (u : UniL) (gp fp : Option Addr) (gc fc : Nat) (xs : List Int) (lp : Option Addr) (lc : Nat) (n : Int) (w : World) (hgl : u.globals.length * 48 ≤ 140737488351232) (hG : SliceAt w 3 (GloR w) gp u.globals) (hfl : u.funcs.length * 56 ≤ 140737488351232) (hF : SliceAt w 4 (FunR w) fp u.funcs) (hw0 : Ways w) (hln : lp = none → xs.length = 0 ∧ lc = 0) (hlc : xs.length ≤ lc) (_ : lc * 8 ≤ reachBytes) (hls : SliceAt w 1 IntR lp xs) (_ : I64 n) :
    Calls Tryd.prog 13 #[.agg #[.slice gp u.globals.length gc, .slice fp u.funcs.length fc], .slice lp xs.length lc, .int .i64 n] w fun e w' => e = .returned (.bool true) ∧ Below w.heap.size w w' :=
  flat_un ⟨hgl, hG, hfl, hF, hw0⟩ xs lp lc n hls hlc (fun e => (hln e).2)
end Go.Proofs.YtlalmbklhmpngaaDoor
