/-
  PureDeaf: the walk of the law.
-/
import Derived.Test.YtlalmbklhmpngaaDoorPurO
import Derived.Test.YtlalmbklhmpngaaDoorOutC
import Derived.WalkKit
import Derived.WalkSpells
import Derived.WalkLawsBesides
namespace Go.Proofs.YtlalmbklhmpngaaDoor
open Go.RowKit

theorem outs_le {u : UniL} {inp : List Int} {fuel : Int} (hI : ∀ x ∈ inp, I64 x) (hU64 : U64 u) : (runO u inp fuel).outs.length ≤ 140737488355328 := by
  by_cases h : (runF u inp.length fuel).1 = 0
  · rw [runO_fine' h]
    obtain ⟨m, hm, hml⟩ := mainI_get (chk_ok (runF_zero h).1).2
    have hu : UOk u := ⟨(chk_ok (runF_zero h).1).2, hU64⟩
    have h1 := (go_ok hu fuel.toNat (start_ok hu hI hml)).outs
    unfold runU
    rw [hm]
    show List.length (goS u fuel.toNat (startS u inp m)).outs ≤ _
    omega
  · unfold runO
    rw [if_neg h]
    show 0 ≤ _
    omega
set_option maxRecDepth 100000 in
set_option maxHeartbeats 2000000 in
theorem deaf_un {u : UniL} {gp fp : Option Addr} {gc fc : Nat} {w : World} (hUn : UnA u gp fp w) (inp inp2 : List Int) (lp lq : Option Addr) (lc ld : Nat) (fuel : Int) (hI : SliceAt w 1 IntR lp inp) (hic : inp.length ≤ lc) (hip : lp = none → lc = 0) (hJ : SliceAt w 1 IntR lq inp2) (hjc : inp2.length ≤ ld) (hjp : lq = none → ld = 0) :
    Calls Tryd.prog 11 #[.agg #[.slice gp u.globals.length gc, .slice fp u.funcs.length fc], .slice lp inp.length lc, .slice lq inp2.length ld, .int .i64 fuel] w fun e w' => e = .returned (.bool true) ∧ Below w.heap.size w w' := by
  have HUn := hidI hUn
  have HI := hidI hI
  have HJ := hidI hJ
  have hol1 := outs_le (fuel := fuel) (ints_in hI) (U64.of hUn)
  have hol2 := outs_le (fuel := fuel) (ints_in hJ) (U64.of hUn)
  clear hUn hI hJ
  go_enter Tryd.func11, Tryd.ntmps11
  go_wp2_with fail
  refine (told_any (HUn.out.ways.below (by repeat (first | with_reducible exact Below.refl _ _ | with_reducible exact HB3.out | with_reducible refine Below.drew ?_ | with_reducible refine below_drewN ?_ _ | with_reducible refine Below.setCell ?_ ?_ _ | with_reducible refine Below.alloc ?_ ?_ _ | with_reducible exact HB2.out | with_reducible exact HB1.out | with_reducible refine Below.trans ?_ (Below.mono hb3 ?_) | with_reducible refine Below.trans ?_ (Below.mono hb5 ?_) | with_reducible refine Below.trans ?_ (Below.mono hb4 ?_) | omega | (simp; omega) | simp)))).mono ?_
  rintro e w2 ⟨rfl, hb2⟩
  have HB1 : Hid (Below w.heap.size w w2) := Below.trans (by repeat (first | with_reducible exact Below.refl _ _ | with_reducible exact HB3.out | with_reducible refine Below.drew ?_ | with_reducible refine below_drewN ?_ _ | with_reducible refine Below.setCell ?_ ?_ _ | with_reducible refine Below.alloc ?_ ?_ _ | with_reducible exact HB2.out | with_reducible exact HB1.out | with_reducible refine Below.trans ?_ (Below.mono hb3 ?_) | with_reducible refine Below.trans ?_ (Below.mono hb5 ?_) | with_reducible refine Below.trans ?_ (Below.mono hb4 ?_) | omega | (simp; omega) | simp)) (hb2.mono (by first | (simp; done) | (simp; omega)))
  obtain ⟨hcu, _⟩ := blk (heap_below hb2 (k := w.heap.size) (by first | (simp; done) | (simp; omega)) (heap_here w _))
  have z2 : w.heap.size < w2.heap.size := by have := hb2.size; simp at this; omega
  clear hb2
  go_wp2_with fail
  refine (pmain_any (HUn.out.mono HB1.out)).mono ?_
  rintro e w3 ⟨rfl, hb3⟩
  have HB2 : Hid (Below w.heap.size w w3) := HB1.out.trans (hb3.mono HB1.out.size)
  replace hcu := fun o => (hb3.cell (p := ⟨w.heap.size, o, none⟩) z2).trans (hcu o)
  have z3 : w.heap.size < w3.heap.size := by have := hb3.size; omega
  clear hb3
  go_wp2_with fail
  refine (do_any (HUn.out.mono HB2.out) inp lp lc fuel (HI.out.mono HB2.out (by omega) fun _ _ g => g) hic hip).mono ?_
  rintro e w4 ⟨p, c, rfl, hS1, _, hb4⟩
  have HB3 : Hid (Below w.heap.size w w4) := HB2.out.trans (hb4.mono HB2.out.size)
  replace hcu := fun o => (hb4.cell (p := ⟨w.heap.size, o, none⟩) z3).trans (hcu o)
  have z4 : w.heap.size < w4.heap.size := by have := hb4.size; omega
  have HS1 := hidI hS1
  clear hb4 hS1
  go_wp2_with fail
  refine (do_any (HUn.out.mono (HB3.out.trans (by repeat (first | with_reducible exact Below.refl _ _ | with_reducible exact HB3.out | with_reducible refine Below.drew ?_ | with_reducible refine below_drewN ?_ _ | with_reducible refine Below.setCell ?_ ?_ _ | with_reducible refine Below.alloc ?_ ?_ _ | with_reducible exact HB2.out | with_reducible exact HB1.out | with_reducible refine Below.trans ?_ (Below.mono hb3 ?_) | with_reducible refine Below.trans ?_ (Below.mono hb5 ?_) | with_reducible refine Below.trans ?_ (Below.mono hb4 ?_) | omega | (simp; omega) | simp)))) inp2 lq ld fuel (HJ.out.mono (HB3.out.trans (by repeat (first | with_reducible exact Below.refl _ _ | with_reducible exact HB3.out | with_reducible refine Below.drew ?_ | with_reducible refine below_drewN ?_ _ | with_reducible refine Below.setCell ?_ ?_ _ | with_reducible refine Below.alloc ?_ ?_ _ | with_reducible exact HB2.out | with_reducible exact HB1.out | with_reducible refine Below.trans ?_ (Below.mono hb3 ?_) | with_reducible refine Below.trans ?_ (Below.mono hb5 ?_) | with_reducible refine Below.trans ?_ (Below.mono hb4 ?_) | omega | (simp; omega) | simp))) (by omega) fun _ _ g => g) hjc hjp).mono ?_
  rintro e w5 ⟨q, d, rfl, hS2, _, hb5⟩
  have hb45 : Below w4.heap.size w4 w5 := Below.trans (by repeat (first | with_reducible exact Below.refl _ _ | with_reducible exact HB3.out | with_reducible refine Below.drew ?_ | with_reducible refine below_drewN ?_ _ | with_reducible refine Below.setCell ?_ ?_ _ | with_reducible refine Below.alloc ?_ ?_ _ | with_reducible exact HB2.out | with_reducible exact HB1.out | with_reducible refine Below.trans ?_ (Below.mono hb3 ?_) | with_reducible refine Below.trans ?_ (Below.mono hb5 ?_) | with_reducible refine Below.trans ?_ (Below.mono hb4 ?_) | omega | (simp; omega) | simp)) (hb5.mono (by first | (simp; done) | (simp; omega)))
  have HB4 : Hid (Below w.heap.size w w5) := HB3.out.trans (hb45.mono HB3.out.size)
  have ca := (blk (heap_below hb5 (k := w4.heap.size) (by first | (simp; done) | (simp; omega)) (heap_step (heap_at (w := w4) (o := .cells #[.int .i64 (runO u inp fuel).state, .int .i64 (runO u inp fuel).value, .slice p (runO u inp fuel).outs.length c, .int .i64 (runO u inp fuel).steps] 40) rfl)))).1
  have cb := (blk (heap_below hb5 (k := w4.heap.size + 1) (by first | (simp; done) | (simp; omega)) (heap_at (w := w4.alloc _) (o := .cells #[.int .i64 (runF u inp.length fuel).1, .int .i64 (runF u inp.length fuel).2] 28) (by simp)))).1
  have z5 : w4.heap.size + 1 < w5.heap.size := by have := hb5.size; simp at this; omega
  have z6 : w4.heap.size + 1 < w5.heap.size + 1 := by omega
  have z7 : w4.heap.size < w5.heap.size := by omega
  have z8 : w4.heap.size < w5.heap.size + 1 := by omega
  have HS1' : Hid (SliceAt w5 1 IntR p (runO u inp fuel).outs) := hidI (HS1.out.mono hb45 (by omega) fun _ _ g => g)
  have HS2 := hidI hS2
  clear hb5 hS2 hcu hb45
  by_cases hF : (runF u inp.length fuel).1 = 0
  · have hq : ((runF u inp.length fuel).1 != (0 : Int)) = false := by rw [hF]; rfl
    by_cases hF2 : (runF u inp2.length fuel).1 = 0
    · have hq2 : ((runF u inp2.length fuel).1 != (0 : Int)) = false := by rw [hF2]; rfl
      obtain ⟨m, hm, hml, hp⟩ := mainM_fine hF
      have hU : UOk u := ⟨(chk_ok (runF_zero hF).1).2, U64.of HUn.out⟩
      have hlt := maskI_lt (maskB u m)
      rw [← hp] at hlt
      have hn : decide (mainM u < 0) = false := by rw [decide_eq_false_iff_not]; omega
      have hand := and_bit (maskB u m) 0 (by omega)
      rw [← hp, bit0] at hand
      cases hbit : maskB u m 0 with
      | false =>
        have hq6 : (bits .and .i64 (mainM u) 1 != (0 : Int)) = false := by rw [hand.2 hbit]; rfl
        have hd := deaf_run hU hm (ints_in HI.out) hbit inp2 fuel.toNat
        rw [← runO_fine' hF, ← runO_fine' hF2] at hd
        have HOc := hidI fun (W : World) (h : Below w5.heap.size w5 W) => outcomes_any (runO u inp fuel).state (runO u inp2 fuel).state (runO u inp fuel).value (runO u inp2 fuel).value (runO u inp fuel).steps (runO u inp2 fuel).steps (runO u inp fuel).outs (runO u inp2 fuel).outs p q c d W hol1 hol2 (HS1'.out.mono h (by omega) fun _ _ g => g) (HS2.out.mono h (by omega) fun _ _ g => g)
        have he : decide (((runO u inp fuel).state = (runO u inp2 fuel).state ∧ (runO u inp fuel).value = (runO u inp2 fuel).value ∧ (runO u inp fuel).outs = (runO u inp2 fuel).outs) ∧ ((runO u inp fuel).steps : Int) = ((runO u inp2 fuel).steps : Int)) = true := by
          rw [hd]
          simp [reI]
        rw [he] at HOc
        clear hF hF2 hand hp hU hd hm hbit he
        go_wp2_with fail
        refine (HOc.out _ (by repeat (first | with_reducible exact Below.refl _ _ | with_reducible exact HB3.out | with_reducible refine Below.drew ?_ | with_reducible refine below_drewN ?_ _ | with_reducible refine Below.setCell ?_ ?_ _ | with_reducible refine Below.alloc ?_ ?_ _ | with_reducible exact HB2.out | with_reducible exact HB1.out | with_reducible refine Below.trans ?_ (Below.mono hb3 ?_) | with_reducible refine Below.trans ?_ (Below.mono hb5 ?_) | with_reducible refine Below.trans ?_ (Below.mono hb4 ?_) | omega | (simp; omega) | simp))).mono ?_
        rintro e w6 ⟨rfl, hb6⟩
        have HB5 : Hid (Below w.heap.size w w6) := HB4.out.trans (Below.trans (by repeat (first | with_reducible exact Below.refl _ _ | with_reducible exact HB3.out | with_reducible refine Below.drew ?_ | with_reducible refine below_drewN ?_ _ | with_reducible refine Below.setCell ?_ ?_ _ | with_reducible refine Below.alloc ?_ ?_ _ | with_reducible exact HB2.out | with_reducible exact HB1.out | with_reducible refine Below.trans ?_ (Below.mono hb3 ?_) | with_reducible refine Below.trans ?_ (Below.mono hb5 ?_) | with_reducible refine Below.trans ?_ (Below.mono hb4 ?_) | omega | (simp; omega) | simp)) (hb6.mono (by first | (simp; done) | (simp; omega))))
        clear hb6
        go_wp2_with fail
        go_ret
        exact ⟨rfl, HB5.out⟩
      | true =>
        have hq6 : (bits .and .i64 (mainM u) 1 != (0 : Int)) = true := by
          rw [bne_iff_ne]
          intro e
          rw [hand.1 e] at hbit
          cases hbit
        clear hF hF2 hand hp hU hm hbit
        go_wp2_with fail
        go_ret
        refine ⟨rfl, ?_⟩
        have HB1 := HB4
        repeat (first | with_reducible exact Below.refl _ _ | with_reducible exact HB3.out | with_reducible refine Below.drew ?_ | with_reducible refine below_drewN ?_ _ | with_reducible refine Below.setCell ?_ ?_ _ | with_reducible refine Below.alloc ?_ ?_ _ | with_reducible exact HB2.out | with_reducible exact HB1.out | with_reducible refine Below.trans ?_ (Below.mono hb3 ?_) | with_reducible refine Below.trans ?_ (Below.mono hb5 ?_) | with_reducible refine Below.trans ?_ (Below.mono hb4 ?_) | omega | (simp; omega) | simp)
    · have hq2 : ((runF u inp2.length fuel).1 != (0 : Int)) = true := by rw [bne_iff_ne]; exact hF2
      clear hF hF2
      go_wp2_with fail
      go_ret
      refine ⟨rfl, ?_⟩
      have HB1 := HB4
      repeat (first | with_reducible exact Below.refl _ _ | with_reducible exact HB3.out | with_reducible refine Below.drew ?_ | with_reducible refine below_drewN ?_ _ | with_reducible refine Below.setCell ?_ ?_ _ | with_reducible refine Below.alloc ?_ ?_ _ | with_reducible exact HB2.out | with_reducible exact HB1.out | with_reducible refine Below.trans ?_ (Below.mono hb3 ?_) | with_reducible refine Below.trans ?_ (Below.mono hb5 ?_) | with_reducible refine Below.trans ?_ (Below.mono hb4 ?_) | omega | (simp; omega) | simp)
  · have hq : ((runF u inp.length fuel).1 != (0 : Int)) = true := by rw [bne_iff_ne]; exact hF
    clear hF
    go_wp2_with fail
    go_ret
    refine ⟨rfl, ?_⟩
    have HB1 := HB4
    repeat (first | with_reducible exact Below.refl _ _ | with_reducible exact HB3.out | with_reducible refine Below.drew ?_ | with_reducible refine below_drewN ?_ _ | with_reducible refine Below.setCell ?_ ?_ _ | with_reducible refine Below.alloc ?_ ?_ _ | with_reducible exact HB2.out | with_reducible exact HB1.out | with_reducible refine Below.trans ?_ (Below.mono hb3 ?_) | with_reducible refine Below.trans ?_ (Below.mono hb5 ?_) | with_reducible refine Below.trans ?_ (Below.mono hb4 ?_) | omega | (simp; omega) | simp)
theorem deaf_all (u : UniL) (gp fp : Option Addr) (gc fc : Nat) (xs : List Int) (lp : Option Addr) (lc : Nat) (ys : List Int) (lq : Option Addr) (ld : Nat) (n : Int) (w : World) (hgl : u.globals.length * 48 ≤ 140737488351232) (hG : SliceAt w 3 (GloR w) gp u.globals) (hfl : u.funcs.length * 56 ≤ 140737488351232) (hF : SliceAt w 4 (FunR w) fp u.funcs) (hw0 : Ways w) (hln : lp = none → xs.length = 0 ∧ lc = 0) (hlc : xs.length ≤ lc) (_ : lc * 8 ≤ reachBytes) (hls : SliceAt w 1 IntR lp xs) (hmn : lq = none → ys.length = 0 ∧ ld = 0) (hmc : ys.length ≤ ld) (_ : ld * 8 ≤ reachBytes) (hms : SliceAt w 1 IntR lq ys) (_ : I64 n) :
    Calls Tryd.prog 11 #[.agg #[.slice gp u.globals.length gc, .slice fp u.funcs.length fc], .slice lp xs.length lc, .slice lq ys.length ld, .int .i64 n] w fun e w' => e = .returned (.bool true) ∧ Below w.heap.size w w' :=
  deaf_un ⟨hgl, hG, hfl, hF, hw0⟩ xs ys lp lq lc ld n hls hlc (fun e => (hln e).2) hms hmc (fun e => (hmn e).2)
end Go.Proofs.YtlalmbklhmpngaaDoor
