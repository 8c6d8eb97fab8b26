/-
  PureUp: the walk of the law.
-/
import Derived.Test.YtlalmbklhmpngaaDoorPurN
import Derived.BigQuiet
import Derived.WalkKit
import Derived.WalkSpells
import Derived.WalkLawsBesides
namespace Go.Proofs.YtlalmbklhmpngaaDoor
open Go.RowKit

theorem gr_un_ok {u : UniL} {gp fp : Option Addr} {gc fc : Nat} {w : World} (hUn : UnA u gp fp w) (h : (chk u).1 = 0) :
    Calls Tryd.prog 30 #[.agg #[.slice gp u.globals.length gc, .slice fp u.funcs.length fc]] w fun e w' => ∃ T, e = .returned (.tuple #[.slice (some ⟨T, 0, none⟩) u.funcs.length u.funcs.length, .agg #[.int .i64 0, .int .i64 0]]) ∧ SliceAt w' 1 (IntsR w') (some ⟨T, 0, none⟩) (graphTo u.funcs u.funcs.length) ∧ Below w.heap.size w w' :=
  gr_ok u gp fp gc fc w hUn.gl hUn.glo hUn.fl hUn.fns hUn.ways h
theorem calls_bit {u : UniL} {k x : Nat} (hk : k < u.funcs.length) (he : callsB (fnU u k) (x : Int) = true) : maskB u k 5 = true := by
  refine own_mask hk ?_
  unfold ownB
  rw [if_neg (by omega)]
  unfold callsB at he
  obtain ⟨b, hb, h1⟩ := List.any_eq_true.1 he
  obtain ⟨i, hi, h2⟩ := List.any_eq_true.1 h1
  refine List.any_eq_true.2 ⟨b, hb, List.any_eq_true.2 ⟨i, hi, ?_⟩⟩
  unfold callB at h2
  rw [Bool.and_eq_true] at h2
  simpa [insBit] using h2.1
theorem up_or {u : UniL} {k x : Nat} (hk : k < u.funcs.length) (hx : x < u.funcs.length) (he : callsB (fnU u k) (x : Int) = true) : bits .or .i64 (maskI (maskB u k)) (maskI (maskB u x)) = maskI (maskB u k) := by
  rw [or_mask]
  refine maskI_congr fun i _ => ?_
  cases e : maskB u x i with
  | false => simp
  | true => rw [mask_call hk hx he e]; rfl
set_option maxRecDepth 100000 in
set_option maxHeartbeats 1000000 in
theorem up_bad {u : UniL} {gp fp : Option Addr} {gc fc : Nat} {w : World} (hUn : UnA u gp fp w) (h : (chk u).1 ≠ 0) :
    Calls Tryd.prog 7 #[.agg #[.slice gp u.globals.length gc, .slice fp u.funcs.length fc]] w fun e w' => e = .returned (.bool true) ∧ Below w.heap.size w w' := by
  have HUn := hidI hUn
  have HH := hidI h
  have hq : ((chk u).1 == (0 : Int)) = false := by rw [beq_eq_false_iff_ne]; exact h
  have hq2 : ((chk u).1 != (0 : Int)) = true := by rw [bne_iff_ne]; exact h
  have hself : ∀ w, (binOp .eql 28 (.agg #[.int .i64 (chk u).1, .int .i64 (chk u).2]) (.agg #[.int .i64 (chk u).1, .int .i64 (chk u).2])).run Tryd.prog w = .ok (.bool true) w := fun w => by rw [run_eqFault]; simp
  clear hUn h
  go_enter Tryd.func7, Tryd.ntmps7
  go_wp2_with fail
  refine (told_any (HUn.out.ways.below (by repeat (first | with_reducible exact Below.refl _ _ | with_reducible exact HB3.out | with_reducible refine Below.drew ?_ | with_reducible refine below_drewN ?_ _ | with_reducible refine Below.setCell ?_ ?_ _ | with_reducible refine Below.alloc ?_ ?_ _ | with_reducible exact HB2.out | with_reducible exact HB1.out | with_reducible refine Below.trans ?_ (Below.mono hb3 ?_) | with_reducible refine Below.trans ?_ (Below.mono hb5 ?_) | with_reducible refine Below.trans ?_ (Below.mono hb4 ?_) | omega | (simp; omega) | simp)))).mono ?_
  rintro e w2 ⟨rfl, hb2⟩
  have HB1 : Hid (Below w.heap.size w w2) := Below.trans (by repeat (first | with_reducible exact Below.refl _ _ | with_reducible exact HB3.out | with_reducible refine Below.drew ?_ | with_reducible refine below_drewN ?_ _ | with_reducible refine Below.setCell ?_ ?_ _ | with_reducible refine Below.alloc ?_ ?_ _ | with_reducible exact HB2.out | with_reducible exact HB1.out | with_reducible refine Below.trans ?_ (Below.mono hb3 ?_) | with_reducible refine Below.trans ?_ (Below.mono hb5 ?_) | with_reducible refine Below.trans ?_ (Below.mono hb4 ?_) | omega | (simp; omega) | simp)) (hb2.mono (by first | (simp; done) | (simp; omega)))
  obtain ⟨hcu, _⟩ := blk (heap_below hb2 (k := w.heap.size) (by first | (simp; done) | (simp; omega)) (heap_here w _))
  have z2 : w.heap.size < w2.heap.size := by have := hb2.size; simp at this; omega
  clear hb2
  go_wp2_with fail
  refine (of_bad (HUn.out.mono HB1.out) HH.out).mono ?_
  rintro e w3 ⟨rfl, hb3⟩
  have HB2 : Hid (Below w.heap.size w w3) := HB1.out.trans (hb3.mono HB1.out.size)
  replace hcu := fun o => (hb3.cell (p := ⟨w.heap.size, o, none⟩) z2).trans (hcu o)
  have z3 : w.heap.size < w3.heap.size := by have := hb3.size; omega
  clear hb3
  go_wp2_with fail
  refine (gr_un_bad (HUn.out.mono (HB2.out.trans (by repeat (first | with_reducible exact Below.refl _ _ | with_reducible exact HB3.out | with_reducible refine Below.drew ?_ | with_reducible refine below_drewN ?_ _ | with_reducible refine Below.setCell ?_ ?_ _ | with_reducible refine Below.alloc ?_ ?_ _ | with_reducible exact HB2.out | with_reducible exact HB1.out | with_reducible refine Below.trans ?_ (Below.mono hb3 ?_) | with_reducible refine Below.trans ?_ (Below.mono hb5 ?_) | with_reducible refine Below.trans ?_ (Below.mono hb4 ?_) | omega | (simp; omega) | simp)))) HH.out).mono ?_
  rintro e w4 ⟨rfl, hb4⟩
  have hb34 : Below w3.heap.size w3 w4 := Below.trans (by repeat (first | with_reducible exact Below.refl _ _ | with_reducible exact HB3.out | with_reducible refine Below.drew ?_ | with_reducible refine below_drewN ?_ _ | with_reducible refine Below.setCell ?_ ?_ _ | with_reducible refine Below.alloc ?_ ?_ _ | with_reducible exact HB2.out | with_reducible exact HB1.out | with_reducible refine Below.trans ?_ (Below.mono hb3 ?_) | with_reducible refine Below.trans ?_ (Below.mono hb5 ?_) | with_reducible refine Below.trans ?_ (Below.mono hb4 ?_) | omega | (simp; omega) | simp)) (hb4.mono (by first | (simp; done) | (simp; omega)))
  have HB3 : Hid (Below w.heap.size w w4) := HB2.out.trans (hb34.mono HB2.out.size)
  have cf := (blk (heap_below hb4 (k := w3.heap.size) (by first | (simp; done) | (simp; omega)) (heap_at (w := w3) (o := .cells #[.int .i64 (chk u).1, .int .i64 (chk u).2] 28) rfl))).1
  have z4 : w3.heap.size < w4.heap.size := by have := hb4.size; simp at this; omega
  have z5 : w3.heap.size < w4.heap.size + 1 := by omega
  clear hb4 hb34 hcu
  go_wp2_with fail
  all_goals
    go_ret
    refine ⟨congrArg (fun b => Ending.returned (.bool b)) ?_, ?_⟩
    · first | rfl | (simp_all; done)
    · have HB1 := HB3
      repeat (first | with_reducible exact Below.refl _ _ | with_reducible exact HB3.out | with_reducible refine Below.drew ?_ | with_reducible refine below_drewN ?_ _ | with_reducible refine Below.setCell ?_ ?_ _ | with_reducible refine Below.alloc ?_ ?_ _ | with_reducible exact HB2.out | with_reducible exact HB1.out | with_reducible refine Below.trans ?_ (Below.mono hb3 ?_) | with_reducible refine Below.trans ?_ (Below.mono hb5 ?_) | with_reducible refine Below.trans ?_ (Below.mono hb4 ?_) | omega | (simp; omega) | simp)
set_option maxRecDepth 100000 in
set_option maxHeartbeats 1000000 in
theorem up_ok {u : UniL} {gp fp : Option Addr} {gc fc : Nat} {w : World} (hUn : UnA u gp fp w) (h : (chk u).1 = 0) :
    Calls Tryd.prog 7 #[.agg #[.slice gp u.globals.length gc, .slice fp u.funcs.length fc]] w fun e w' => e = .returned (.bool true) ∧ Below w.heap.size w w' := by
  have HUn := hidI hUn
  have HH := hidI h
  have hnf := (chk_ok h).2.nf
  clear hUn h
  go_enter Tryd.func7, Tryd.ntmps7
  go_wp2_with fail
  refine (told_any (HUn.out.ways.below (by repeat (first | with_reducible exact Below.refl _ _ | with_reducible exact HB3.out | with_reducible refine Below.drew ?_ | with_reducible refine below_drewN ?_ _ | with_reducible refine Below.setCell ?_ ?_ _ | with_reducible refine Below.alloc ?_ ?_ _ | with_reducible exact HB2.out | with_reducible exact HB1.out | with_reducible refine Below.trans ?_ (Below.mono hb3 ?_) | with_reducible refine Below.trans ?_ (Below.mono hb5 ?_) | with_reducible refine Below.trans ?_ (Below.mono hb4 ?_) | omega | (simp; omega) | simp)))).mono ?_
  rintro e w2 ⟨rfl, hb2⟩
  have HB1 : Hid (Below w.heap.size w w2) := Below.trans (by repeat (first | with_reducible exact Below.refl _ _ | with_reducible exact HB3.out | with_reducible refine Below.drew ?_ | with_reducible refine below_drewN ?_ _ | with_reducible refine Below.setCell ?_ ?_ _ | with_reducible refine Below.alloc ?_ ?_ _ | with_reducible exact HB2.out | with_reducible exact HB1.out | with_reducible refine Below.trans ?_ (Below.mono hb3 ?_) | with_reducible refine Below.trans ?_ (Below.mono hb5 ?_) | with_reducible refine Below.trans ?_ (Below.mono hb4 ?_) | omega | (simp; omega) | simp)) (hb2.mono (by first | (simp; done) | (simp; omega)))
  obtain ⟨hcu, _⟩ := blk (heap_below hb2 (k := w.heap.size) (by first | (simp; done) | (simp; omega)) (heap_here w _))
  have z2 : w.heap.size < w2.heap.size := by have := hb2.size; simp at this; omega
  clear hb2
  go_wp2_with fail
  refine (of_ok (HUn.out.mono HB1.out) HH.out).mono ?_
  rintro e w3 ⟨p, c, rfl, hS3, hb3⟩
  have HB2 : Hid (Below w.heap.size w w3) := HB1.out.trans (hb3.mono HB1.out.size)
  replace hcu := fun o => (hb3.cell (p := ⟨w.heap.size, o, none⟩) z2).trans (hcu o)
  have z3 : w.heap.size < w3.heap.size := by have := hb3.size; omega
  have HS3 := hidI hS3
  clear hb3 hS3
  go_wp2_with fail
  refine (gr_un_ok (HUn.out.mono (HB2.out.trans (by repeat (first | with_reducible exact Below.refl _ _ | with_reducible exact HB3.out | with_reducible refine Below.drew ?_ | with_reducible refine below_drewN ?_ _ | with_reducible refine Below.setCell ?_ ?_ _ | with_reducible refine Below.alloc ?_ ?_ _ | with_reducible exact HB2.out | with_reducible exact HB1.out | with_reducible refine Below.trans ?_ (Below.mono hb3 ?_) | with_reducible refine Below.trans ?_ (Below.mono hb5 ?_) | with_reducible refine Below.trans ?_ (Below.mono hb4 ?_) | omega | (simp; omega) | simp)))) HH.out).mono ?_
  rintro e w4 ⟨T, rfl, hS4, hb4⟩
  have hb34 : Below w3.heap.size w3 w4 := Below.trans (by repeat (first | with_reducible exact Below.refl _ _ | with_reducible exact HB3.out | with_reducible refine Below.drew ?_ | with_reducible refine below_drewN ?_ _ | with_reducible refine Below.setCell ?_ ?_ _ | with_reducible refine Below.alloc ?_ ?_ _ | with_reducible exact HB2.out | with_reducible exact HB1.out | with_reducible refine Below.trans ?_ (Below.mono hb3 ?_) | with_reducible refine Below.trans ?_ (Below.mono hb5 ?_) | with_reducible refine Below.trans ?_ (Below.mono hb4 ?_) | omega | (simp; omega) | simp)) (hb4.mono (by first | (simp; done) | (simp; omega)))
  have HB3 : Hid (Below w.heap.size w w4) := HB2.out.trans (hb34.mono HB2.out.size)
  replace hcu := fun o => (hb34.cell (p := ⟨w.heap.size, o, none⟩) z3).trans (hcu o)
  have cf := (blk (heap_below hb4 (k := w3.heap.size) (by first | (simp; done) | (simp; omega)) (heap_at (w := w3) (o := .cells #[.int .i64 0, .int .i64 0] 28) rfl))).1
  have z4 : w3.heap.size < w4.heap.size := by have := hb4.size; simp at this; omega
  have z5 : w3.heap.size < w4.heap.size + 1 := by omega
  have z6 : w.heap.size < w4.heap.size := by omega
  have z7 : w.heap.size < w4.heap.size + 1 := by omega
  have HB34 := hidI hb34
  have HS4 := hidI hS4
  clear hb4 hS4 hb34
  go_wp2_with fail
  obtain ⟨W4, hW4⟩ : ∃ W4, W4 = w4.alloc (.cells #[.int .i64 0, .int .i64 0] 28) := ⟨_, rfl⟩
  rw [← hW4]
  have hb4 : Below w4.heap.size w4 W4 := by rw [hW4]; repeat (first | with_reducible exact Below.refl _ _ | with_reducible exact HB3.out | with_reducible refine Below.drew ?_ | with_reducible refine below_drewN ?_ _ | with_reducible refine Below.setCell ?_ ?_ _ | with_reducible refine Below.alloc ?_ ?_ _ | with_reducible exact HB2.out | with_reducible exact HB1.out | with_reducible refine Below.trans ?_ (Below.mono hb3 ?_) | with_reducible refine Below.trans ?_ (Below.mono hb5 ?_) | with_reducible refine Below.trans ?_ (Below.mono hb4 ?_) | omega | (simp; omega) | simp)
  have HB4 := hidI hb4
  clear hW4 hb4 hcu cf
  go_loopw [7] (fun i wr => ∃ k : Nat, k ≤ u.funcs.length ∧ i = .int .i64 k ∧ Below w4.heap.size W4 wr) (fun i _ => u.funcs.length - (intOf i).toNat)
  case atStart => exact ⟨0, by omega, rfl, Below.refl _ _⟩
  case round =>
    obtain ⟨k, hk, rfl, hb⟩ := hrel
    obtain ⟨wq, hwq⟩ : ∃ wq, wq = wr := ⟨_, rfl⟩
    rw [← hwq] at hb
    rw [← hwq]
    have hb4q : Below w4.heap.size w4 wq := HB4.out.trans hb
    have HBq := hidI hb
    have HB4q := hidI hb4q
    have HBw : Hid (Below w.heap.size w wq) := hidI (HB3.out.trans (hb4q.mono HB3.out.size))
    clear hb hb4q hwq
    by_cases hlt : k < u.funcs.length
    · obtain ⟨bq, oq, q, d, hp, eq0, hql, hqs⟩ := rowGet HS4.out (Below.refl _ _) (i := k) (by rw [graphTo_all]; exact hlt)
      cases hp
      rw [graphTo_get _ hlt, ← fnU_get hlt] at eq0 hql hqs
      rw [Nat.zero_add] at eq0
      have zq0 := lt_of_cell eq0
      have HE := hidI eq0
      have HQs := hidI hqs
      replace eq0 := (HB4q.out.cell (p := ⟨T, k, none⟩) zq0).trans eq0
      have zq := lt_of_cell eq0
      have gk0 : (0 : Int) ≤ (k : Int) := by omega
      have gk1 : (k : Int) < u.funcs.length := by omega
      clear hqs
      go_wp2_with fail
      go_loopw [8] (fun i wr => ∃ j : Nat, j ≤ (rowTo (fnU u k) u.funcs.length).length ∧ i = .int .i64 j ∧ Below w4.heap.size wq wr) (fun i _ => (rowTo (fnU u k) u.funcs.length).length - (intOf i).toNat)
      case atStart => exact ⟨0, by omega, rfl, Below.refl _ _⟩
      case round =>
        obtain ⟨j, hj, rfl, hbz⟩ := hrel
        obtain ⟨wz, hwz⟩ : ∃ wz, wz = wr := ⟨_, rfl⟩
        rw [← hwz] at hbz
        rw [← hwz]
        have hb4z : Below w4.heap.size w4 wz := HB4q.out.trans hbz
        have eqz := (hb4z.cell (p := ⟨T, k, none⟩) zq0).trans HE.out
        have zqz := lt_of_cell eqz
        have HBz := hidI hbz
        clear hwz
        by_cases hjl : j < (rowTo (fnU u k) u.funcs.length).length
        · obtain ⟨b4, o4, hp4, f0, _⟩ := intGet HQs.out hb4z hjl
          subst hp4
          obtain ⟨⟨hx0, hx1⟩, hxc⟩ := rowTo_iff.1 (List.getElem_mem hjl)
          obtain ⟨x, hx⟩ : ∃ x : Nat, (rowTo (fnU u k) u.funcs.length)[j] = (x : Int) := ⟨(rowTo (fnU u k) u.funcs.length)[j].toNat, by omega⟩
          rw [hx] at f0 hx0 hx1 hxc
          have hxn : x < u.funcs.length := by omega
          have hb3z : Below w3.heap.size w3 wz := HB34.out.trans (hb4z.mono HB34.out.size)
          obtain ⟨bl, ol, hpl, lk, _⟩ := intGet HS3.out hb3z (i := k) (by rw [pureL_len]; exact hlt)
          obtain ⟨bl2, ol2, hpl2, lx, _⟩ := intGet HS3.out hb3z (i := x) (by rw [pureL_len]; exact hxn)
          subst hpl
          cases hpl2
          rw [pureL_get] at lk lx
          have zl := lt_of_cell lk
          have zf := lt_of_cell f0
          have hor : (bits .or .i64 (maskI (maskB u k)) (maskI (maskB u x)) != maskI (maskB u k)) = false := by rw [up_or hlt hxn hxc]; simp
          have hb5 := calls_bit hlt hxc
          have hand : (bits .and .i64 (maskI (maskB u k)) 32 == (0 : Int)) = false := by
            rw [beq_eq_false_iff_ne]
            intro e
            rw [← bit5] at e
            rw [(and_bit _ 5 (by omega)).1 e] at hb5
            cases hb5
          have hn0 : decide ((x : Int) < 0) = false := by rw [decide_eq_false_iff_not]; omega
          have hn1 : decide ((u.funcs.length : Int) ≤ (x : Int)) = false := by rw [decide_eq_false_iff_not]; omega
          clear hbz hb4z hb3z hx hxc hb5
          go_wp2_with fail
          go_quiet (fail)
          go_wp2_with fail
          exact ⟨⟨j + 1, by omega, by go_num, below_drewN HBz.out nq⟩, by simp [intOf]; omega⟩
        · obtain rfl : j = (rowTo (fnU u k) u.funcs.length).length := by omega
          go_wp2_with fail
          exact ⟨⟨k + 1, by omega, by go_num, HBq.out.trans HBz.out⟩, by simp [intOf]; omega⟩
    · obtain rfl : k = u.funcs.length := by omega
      go_wp2_with fail
      go_ret
      exact ⟨rfl, HBw.out⟩
theorem up_all (u : UniL) (gp fp : Option Addr) (gc fc : Nat) (w : World) (hgl : u.globals.length * 48 ≤ 140737488351232) (hG : SliceAt w 3 (GloR w) gp u.globals) (hfl : u.funcs.length * 56 ≤ 140737488351232) (hF : SliceAt w 4 (FunR w) fp u.funcs) (hw0 : Ways w) :
    Calls Tryd.prog 7 #[.agg #[.slice gp u.globals.length gc, .slice fp u.funcs.length fc]] w fun e w' => e = .returned (.bool true) ∧ Below w.heap.size w w' := by
  have hUn : UnA u gp fp w := ⟨hgl, hG, hfl, hF, hw0⟩
  by_cases h : (chk u).1 = 0
  · exact up_ok hUn h
  · exact up_bad hUn h
end Go.Proofs.YtlalmbklhmpngaaDoor
