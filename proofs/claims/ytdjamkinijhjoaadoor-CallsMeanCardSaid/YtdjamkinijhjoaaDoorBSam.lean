/-
  The contracts of turnerysame.Block, Func, Globals, Units, None: of what reads as the same data they tell true.
The contracts of turnerysame.Units and None.
-/
import Derived.Test.YtdjamkinijhjoaaDoorSoJ
import Derived.Test.YtdjamkinijhjoaaDoorCalT
import Derived.Test.YtdjamkinijhjoaaDoorBOwn
import Derived.WalkKit
import Derived.WalkSpells
import Derived.WalkLawsBesides
import Derived.Test.YtdjamkinijhjoaaDoorBCopC
namespace Go.Proofs.YtdjamkinijhjoaaDoor
open Go.RowKit

theorem valsAt_of {w : World} {p : Option Addr} {xs : List (Bool × Int)} (h : SliceAt w 2 ValR p xs) : ValsAt w p xs.length fun i => xs.getD i (false, 0) := by
  rcases h with rfl | ⟨b, o, hp, h⟩
  · exact .inl rfl
  · refine .inr ⟨b, o, hp, fun i hi => ?_⟩
    obtain ⟨cs, _, hc, ⟨rfl, _⟩⟩ := h i hi
    have h0 : w.cell? ⟨b, o + i * 2, none⟩ = some (.bool xs[i].1) := hc 0 (by omega)
    have h1 : w.cell? ⟨b, o + i * 2 + 1, none⟩ = some (.int .i64 xs[i].2) := hc 1 (by omega)
    have e : xs.getD i (false, 0) = xs[i] := by simp [List.getD, hi]
    show _ = some (Value.bool (xs.getD i (false, 0)).1) ∧ _ = some (Value.int .i64 (xs.getD i (false, 0)).2)
    rw [e]
    exact ⟨h0, h1⟩
theorem valsS (xs : List (Bool × Int)) (p q : Option Addr) (c d : Nat) (w : World) (hl : xs.length * 16 ≤ reachBytes) (h : SliceAt w 2 ValR p xs) (g : SliceAt w 2 ValR q xs) :
    Calls Tryd.prog 120 #[.slice p xs.length c, .slice q xs.length d] w fun e w' => e = .returned (.bool true) ∧ Below w.heap.size w w' :=
  (vals_same p q xs.length c d _ w (by unfold reachBytes at hl; omega) (valsAt_of h) (valsAt_of g)).mono fun e w' ⟨h1, m, h2⟩ => ⟨h1, by rw [h2]; exact below_drewN (Below.refl _ _) _⟩

theorem insSm (x : InsL) (p q : Option Addr) (c d : Nat) (w : World) (hl : x.args.length * 16 ≤ reachBytes) (h : SliceAt w 2 ValR p x.args) (g : SliceAt w 2 ValR q x.args) :
    Calls Tryd.prog 121 #[.agg #[.int .i64 x.op, .int .i64 x.dst, .bool x.ar, .int .i64 x.an, .bool x.br, .int .i64 x.bn, .int .i64 x.fn, .slice p x.args.length c], .agg #[.int .i64 x.op, .int .i64 x.dst, .bool x.ar, .int .i64 x.an, .bool x.br, .int .i64 x.bn, .int .i64 x.fn, .slice q x.args.length d]] w fun e w' => e = .returned (.bool true) ∧ Below w.heap.size w w' :=
  ins_same x.op x.dst x.an x.bn x.fn x.ar x.br p q x.args.length c d _ w (by unfold reachBytes at hl; omega) (valsAt_of h) (valsAt_of g)
theorem intsS (xs : List Int) (p q : Option Addr) (c d : Nat) (w : World) (hl : xs.length * 8 ≤ 140737488351232) (hX : SliceAt w 1 IntR p xs) (hY : SliceAt w 1 IntR q xs) :
    Calls Tryd.prog 73 #[.slice p xs.length c, .slice q xs.length d] w fun e w' => e = .returned (.bool true) ∧ Below w.heap.size w w' :=
  (ints_any xs xs p q c d w (by omega) (by omega) hX hY).mono fun e w' h => ⟨by rw [h.1]; simp, h.2⟩

set_option maxRecDepth 100000 in
set_option maxHeartbeats 2000000 in
theorem block_same (x : BlkL) (p1 p2 p3 q1 q2 q3 : Option Addr) (c1 c2 c3 d1 d2 d3 : Nat) (w : World) (hP : SlF w 2 32 (PhiR w) (.slice p1 x.phis.length c1) x.phis) (hI : SlF w 8 80 (InsR w) (.slice p2 x.list.length c2) x.list) (hT : SlF w 1 8 IntR (.slice p3 x.fin.to.length c3) x.fin.to)
    (gP : SlF w 2 32 (PhiR w) (.slice q1 x.phis.length d1) x.phis) (gI : SlF w 8 80 (InsR w) (.slice q2 x.list.length d2) x.list) (gT : SlF w 1 8 IntR (.slice q3 x.fin.to.length d3) x.fin.to) :
    Calls Tryd.prog 74 #[.agg #[.slice p1 x.phis.length c1, .slice p2 x.list.length c2, .int .i64 x.fin.kind, .bool x.fin.onr, .int .i64 x.fin.onn, .slice p3 x.fin.to.length c3], .agg #[.slice q1 x.phis.length d1, .slice q2 x.list.length d2, .int .i64 x.fin.kind, .bool x.fin.onr, .int .i64 x.fin.onn, .slice q3 x.fin.to.length d3]] w fun e w' => e = .returned (.bool true) ∧ Below w.heap.size w w' := by
  have hlp : x.phis.length * 32 ≤ 140737488351232 := hP.bdC
  have hli : x.list.length * 80 ≤ 140737488351232 := hI.bdC
  have hlto : x.fin.to.length * 8 ≤ 140737488351232 := hT.bdC
  have hP' : SliceAt w 2 (PhiR w) p1 x.phis := by obtain ⟨_, _, e, _, _, h⟩ := hP.outC; cases e; exact h
  have hI' : SliceAt w 8 (InsR w) p2 x.list := by obtain ⟨_, _, e, _, _, h⟩ := hI.outC; cases e; exact h
  have hT' : SliceAt w 1 IntR p3 x.fin.to := by obtain ⟨_, _, e, _, _, h⟩ := hT.outC; cases e; exact h
  have gP' : SliceAt w 2 (PhiR w) q1 x.phis := by obtain ⟨_, _, e, _, _, h⟩ := gP.outC; cases e; exact h
  have gI' : SliceAt w 8 (InsR w) q2 x.list := by obtain ⟨_, _, e, _, _, h⟩ := gI.outC; cases e; exact h
  have gT' : SliceAt w 1 IntR q3 x.fin.to := by obtain ⟨_, _, e, _, _, h⟩ := gT.outC; cases e; exact h
  have HP := hidI hP'
  have HI := hidI hI'
  have HT := hidI hT'
  have GP := hidI gP'
  have GI := hidI gI'
  have GT := hidI gT'
  clear hP hI hT gP gI gT hP' hI' hT' gP' gI' gT'
  go_enter Tryd.func74, Tryd.ntmps74
  go_wp2_with fail
  obtain ⟨W0, hW0⟩ : ∃ W0, W0 = (w.alloc (.cells #[.slice p1 x.phis.length c1, .slice p2 x.list.length c2, .int .i64 x.fin.kind, .bool x.fin.onr, .int .i64 x.fin.onn, .slice p3 x.fin.to.length c3] 50)).alloc (.cells #[.slice q1 x.phis.length d1, .slice q2 x.list.length d2, .int .i64 x.fin.kind, .bool x.fin.onr, .int .i64 x.fin.onn, .slice q3 x.fin.to.length d3] 50) := ⟨_, rfl⟩
  rw [← hW0]
  have hz0 : W0.heap.size = w.heap.size + 1 + 1 := by rw [hW0]; simp
  have HB0 : Hid (Below w.heap.size w W0) := hidI (by rw [hW0]; repeat (first | with_reducible exact Below.refl _ _ | with_reducible exact HB3.out | with_reducible refine Below.drew ?_ | with_reducible refine below_drewN ?_ _ | with_reducible refine Below.setCell ?_ ?_ _ | with_reducible refine Below.alloc ?_ ?_ _ | with_reducible exact HB2.out | with_reducible exact HB1.out | with_reducible refine Below.trans ?_ (Below.mono hb3 ?_) | with_reducible refine Below.trans ?_ (Below.mono hb5 ?_) | with_reducible refine Below.trans ?_ (Below.mono hb4 ?_) | omega | (simp; omega) | simp))
  have HA : Hid (W0.heap[w.heap.size]? = some (.cells #[.slice p1 x.phis.length c1, .slice p2 x.list.length c2, .int .i64 x.fin.kind, .bool x.fin.onr, .int .i64 x.fin.onn, .slice p3 x.fin.to.length c3] 50 (0, 0))) := hidI (by rw [hW0]; exact heap_step (heap_at rfl))
  have HB : Hid (W0.heap[w.heap.size + 1]? = some (.cells #[.slice q1 x.phis.length d1, .slice q2 x.list.length d2, .int .i64 x.fin.kind, .bool x.fin.onr, .int .i64 x.fin.onn, .slice q3 x.fin.to.length d3] 50 (0, 0))) := hidI (by rw [hW0]; exact heap_at (by simp))
  clear hW0
  go_loopw [5] (fun i wr => ∃ k : Nat, k ≤ x.phis.length ∧ i = .int .i64 k ∧ Below W0.heap.size W0 wr) (fun i _ => x.phis.length - (intOf i).toNat)
  case atStart => exact ⟨0, by omega, rfl, Below.refl _ _⟩
  case round =>
    obtain ⟨k, hk, rfl, hb⟩ := hrel
    have HBr := hidI hb
    have HBw : Hid (Below w.heap.size w wr) := HB0.out.trans (hb.mono (by omega))
    have hA := (hb.block w.heap.size (by omega)).trans HA.out
    have hB := (hb.block (w.heap.size + 1) (by omega)).trans HB.out
    have a0 : wr.cell? ⟨w.heap.size, 0, none⟩ = some (.slice p1 x.phis.length c1) := (blk hA).1 0
    have b0 : wr.cell? ⟨w.heap.size + 1, 0, none⟩ = some (.slice q1 x.phis.length d1) := (blk hB).1 0
    have za := ltHeap hA
    have zb := ltHeap hB
    have HA1 := hidI hA
    have HB1 := hidI hB
    clear hb hA hB
    by_cases hlt : k < x.phis.length
    · obtain ⟨bp, op, qa, ca, hp, e0, e1, _, l1, s1⟩ := phiGet HP.out HBw.out hlt
      obtain ⟨bq, oq, qb, cb, hq, f0, f1, _, l2, s2⟩ := phiGet GP.out HBw.out hlt
      subst hp hq
      have hz1 := lt_of_cell e0
      have hz2 := lt_of_cell f0
      have HS1 := hidI s1
      have HS2 := hidI s2
      clear s1 s2
      have g1 : (0 : Int) ≤ (k : Int) := by omega
      have g2 : (k : Int) < x.phis.length := by omega
      go_wp2_with fail
      go_region_held3 (fun w' => w'.cell? ⟨w.heap.size, 0, none⟩ = some (.slice (some ⟨bp, op, none⟩) x.phis.length c1) ∧ w'.cell? ⟨w.heap.size + 1, 0, none⟩ = some (.slice (some ⟨bq, oq, none⟩) x.phis.length d1) ∧ w'.cell? ⟨bp, op + k * 2, none⟩ = some (.int .i64 x.phis[k].dst) ∧ w'.cell? ⟨bp, op + k * 2 + 1, none⟩ = some (.slice qa x.phis[k].src.length ca) ∧ w'.cell? ⟨bq, oq + k * 2, none⟩ = some (.int .i64 x.phis[k].dst) ∧ w'.cell? ⟨bq, oq + k * 2 + 1, none⟩ = some (.slice qb x.phis[k].src.length cb)) (go_keep)
        (first | (go_at_call 120; refine (valsS x.phis[k].src _ _ _ _ _ l1 (HS1.out.mono (by repeat (first | with_reducible exact Below.refl _ _ | with_reducible exact HB3.out | with_reducible refine Below.drew ?_ | with_reducible refine below_drewN ?_ _ | with_reducible refine Below.setCell ?_ ?_ _ | with_reducible refine Below.alloc ?_ ?_ _ | with_reducible exact HB2.out | with_reducible exact HB1.out | with_reducible refine Below.trans ?_ (Below.mono hb3 ?_) | with_reducible refine Below.trans ?_ (Below.mono hb5 ?_) | with_reducible refine Below.trans ?_ (Below.mono hb4 ?_) | omega | (simp; omega) | simp)) (by omega) fun _ _ h => h) (HS2.out.mono (by repeat (first | with_reducible exact Below.refl _ _ | with_reducible exact HB3.out | with_reducible refine Below.drew ?_ | with_reducible refine below_drewN ?_ _ | with_reducible refine Below.setCell ?_ ?_ _ | with_reducible refine Below.alloc ?_ ?_ _ | with_reducible exact HB2.out | with_reducible exact HB1.out | with_reducible refine Below.trans ?_ (Below.mono hb3 ?_) | with_reducible refine Below.trans ?_ (Below.mono hb5 ?_) | with_reducible refine Below.trans ?_ (Below.mono hb4 ?_) | omega | (simp; omega) | simp)) (by omega) fun _ _ h => h)).mono ?_; rintro e w2 ⟨rfl, hb2⟩; have hq1 := hb2.cell (p := ⟨bp, op + k * 2, none⟩) (by simpa using hz1); have hq2 := hb2.cell (p := ⟨bp, op + k * 2 + 1, none⟩) (by simpa using hz1); have hq3 := hb2.cell (p := ⟨bq, oq + k * 2, none⟩) (by simpa using hz2); have hq4 := hb2.cell (p := ⟨bq, oq + k * 2 + 1, none⟩) (by simpa using hz2); have hq5 := hb2.cell (p := ⟨w.heap.size, 0, none⟩) (by simpa using za); have hq6 := hb2.cell (p := ⟨w.heap.size + 1, 0, none⟩) (by simpa using zb)))
      all_goals
        have HN : Hid (Below W0.heap.size W0 w2) := HBr.out.trans (Below.trans (by repeat (first | with_reducible exact Below.refl _ _ | with_reducible exact HB3.out | with_reducible refine Below.drew ?_ | with_reducible refine below_drewN ?_ _ | with_reducible refine Below.setCell ?_ ?_ _ | with_reducible refine Below.alloc ?_ ?_ _ | with_reducible exact HB2.out | with_reducible exact HB1.out | with_reducible refine Below.trans ?_ (Below.mono hb3 ?_) | with_reducible refine Below.trans ?_ (Below.mono hb5 ?_) | with_reducible refine Below.trans ?_ (Below.mono hb4 ?_) | omega | (simp; omega) | simp)) (hb2.mono (by simp; exact HBr.out.size)))
        clear hb2 hq1 hq2 hq3 hq4 hq5 hq6
        go_wp2
        exact ⟨⟨k + 1, by omega, by go_num, HN.out⟩, by simp [intOf]; omega⟩
    · obtain rfl : k = x.phis.length := by omega
      have a1 : wr.cell? ⟨w.heap.size, 1, none⟩ = some (.slice p2 x.list.length c2) := (blk HA1.out).1 1
      have b1 : wr.cell? ⟨w.heap.size + 1, 1, none⟩ = some (.slice q2 x.list.length d2) := (blk HB1.out).1 1
      go_wp2_with fail
      clear a0 b0 a1 b1 za zb HBw
      obtain ⟨W1, hW1⟩ : ∃ W1, W1 = wr := ⟨_, rfl⟩
      rw [← hW1]
      rw [← hW1] at HBr
      clear HA1 HB1 hW1
      have hBr1 := HBr.out.size
      go_loopw [6] (fun i wr => ∃ k : Nat, k ≤ x.list.length ∧ i = .int .i64 k ∧ Below W0.heap.size W0 wr) (fun i _ => x.list.length - (intOf i).toNat)
      case atStart => exact ⟨0, by omega, rfl, HBr.out⟩
      case round =>
        obtain ⟨k, hk, rfl, hb⟩ := hrel
        have HBr := hidI hb
        have HBw : Hid (Below w.heap.size w wr) := HB0.out.trans (hb.mono (by omega))
        have hA := (hb.block w.heap.size (by omega)).trans HA.out
        have hB := (hb.block (w.heap.size + 1) (by omega)).trans HB.out
        have a1 : wr.cell? ⟨w.heap.size, 1, none⟩ = some (.slice p2 x.list.length c2) := (blk hA).1 1
        have b1 : wr.cell? ⟨w.heap.size + 1, 1, none⟩ = some (.slice q2 x.list.length d2) := (blk hB).1 1
        have za := ltHeap hA
        have zb := ltHeap hB
        have HA1 := hidI hA
        have HB1 := hidI hB
        clear hb hA hB
        by_cases hlt : k < x.list.length
        · obtain ⟨bp, op, qa, ca, hp, e0, e1, e2, e3, e4, e5, e6, e7, _, _, _, _, _, l1, s1⟩ := insGet HI.out HBw.out hlt
          obtain ⟨bq, oq, qb, cb, hq, f0, f1, f2, f3, f4, f5, f6, f7, _, _, _, _, _, l2, s2⟩ := insGet GI.out HBw.out hlt
          subst hp hq
          have hz1 := lt_of_cell e0
          have hz2 := lt_of_cell f0
          have HS1 := hidI s1
          have HS2 := hidI s2
          clear s1 s2
          have g1 : (0 : Int) ≤ (k : Int) := by omega
          have g2 : (k : Int) < x.list.length := by omega
          go_wp2_with fail
          go_region_held3 (fun w' => w'.cell? ⟨w.heap.size, 1, none⟩ = some (.slice (some ⟨bp, op, none⟩) x.list.length c2) ∧ w'.cell? ⟨w.heap.size + 1, 1, none⟩ = some (.slice (some ⟨bq, oq, none⟩) x.list.length d2) ∧ w'.cell? ⟨bp, op + k * 8, none⟩ = some (.int .i64 x.list[k].op) ∧ w'.cell? ⟨bp, op + k * 8 + 1, none⟩ = some (.int .i64 x.list[k].dst) ∧ w'.cell? ⟨bp, op + k * 8 + 2, none⟩ = some (.bool x.list[k].ar) ∧ w'.cell? ⟨bp, op + k * 8 + 3, none⟩ = some (.int .i64 x.list[k].an) ∧ w'.cell? ⟨bp, op + k * 8 + 4, none⟩ = some (.bool x.list[k].br) ∧ w'.cell? ⟨bp, op + k * 8 + 5, none⟩ = some (.int .i64 x.list[k].bn) ∧ w'.cell? ⟨bp, op + k * 8 + 6, none⟩ = some (.int .i64 x.list[k].fn) ∧ w'.cell? ⟨bp, op + k * 8 + 7, none⟩ = some (.slice qa x.list[k].args.length ca) ∧
              w'.cell? ⟨bq, oq + k * 8, none⟩ = some (.int .i64 x.list[k].op) ∧ w'.cell? ⟨bq, oq + k * 8 + 1, none⟩ = some (.int .i64 x.list[k].dst) ∧ w'.cell? ⟨bq, oq + k * 8 + 2, none⟩ = some (.bool x.list[k].ar) ∧ w'.cell? ⟨bq, oq + k * 8 + 3, none⟩ = some (.int .i64 x.list[k].an) ∧ w'.cell? ⟨bq, oq + k * 8 + 4, none⟩ = some (.bool x.list[k].br) ∧ w'.cell? ⟨bq, oq + k * 8 + 5, none⟩ = some (.int .i64 x.list[k].bn) ∧ w'.cell? ⟨bq, oq + k * 8 + 6, none⟩ = some (.int .i64 x.list[k].fn) ∧ w'.cell? ⟨bq, oq + k * 8 + 7, none⟩ = some (.slice qb x.list[k].args.length cb)) (go_keep)
            (first | (go_at_call 121; refine (insSm x.list[k] _ _ _ _ _ l1 (HS1.out.mono (by repeat (first | with_reducible exact Below.refl _ _ | with_reducible exact HB3.out | with_reducible refine Below.drew ?_ | with_reducible refine below_drewN ?_ _ | with_reducible refine Below.setCell ?_ ?_ _ | with_reducible refine Below.alloc ?_ ?_ _ | with_reducible exact HB2.out | with_reducible exact HB1.out | with_reducible refine Below.trans ?_ (Below.mono hb3 ?_) | with_reducible refine Below.trans ?_ (Below.mono hb5 ?_) | with_reducible refine Below.trans ?_ (Below.mono hb4 ?_) | omega | (simp; omega) | simp)) (by omega) fun _ _ h => h) (HS2.out.mono (by repeat (first | with_reducible exact Below.refl _ _ | with_reducible exact HB3.out | with_reducible refine Below.drew ?_ | with_reducible refine below_drewN ?_ _ | with_reducible refine Below.setCell ?_ ?_ _ | with_reducible refine Below.alloc ?_ ?_ _ | with_reducible exact HB2.out | with_reducible exact HB1.out | with_reducible refine Below.trans ?_ (Below.mono hb3 ?_) | with_reducible refine Below.trans ?_ (Below.mono hb5 ?_) | with_reducible refine Below.trans ?_ (Below.mono hb4 ?_) | omega | (simp; omega) | simp)) (by omega) fun _ _ h => h)).mono ?_; rintro e w2 ⟨rfl, hb2⟩; have hq1 := fun o => hb2.cell (p := ⟨bp, o, none⟩) (by simpa using hz1); have hq2 := fun o => hb2.cell (p := ⟨bq, o, none⟩) (by simpa using hz2); have hq5 := hb2.cell (p := ⟨w.heap.size, 1, none⟩) (by simpa using za); have hq6 := hb2.cell (p := ⟨w.heap.size + 1, 1, none⟩) (by simpa using zb)))
          all_goals
            have HN : Hid (Below W0.heap.size W0 w2) := HBr.out.trans (Below.trans (by repeat (first | with_reducible exact Below.refl _ _ | with_reducible exact HB3.out | with_reducible refine Below.drew ?_ | with_reducible refine below_drewN ?_ _ | with_reducible refine Below.setCell ?_ ?_ _ | with_reducible refine Below.alloc ?_ ?_ _ | with_reducible exact HB2.out | with_reducible exact HB1.out | with_reducible refine Below.trans ?_ (Below.mono hb3 ?_) | with_reducible refine Below.trans ?_ (Below.mono hb5 ?_) | with_reducible refine Below.trans ?_ (Below.mono hb4 ?_) | omega | (simp; omega) | simp)) (hb2.mono (by simp; exact HBr.out.size)))
            clear hb2 hq1 hq2 hq5 hq6
            go_wp2
            exact ⟨⟨k + 1, by omega, by go_num, HN.out⟩, by simp [intOf]; omega⟩
        · obtain rfl : k = x.list.length := by omega
          have a2 : wr.cell? ⟨w.heap.size, 2, none⟩ = some (.int .i64 x.fin.kind) := (blk HA1.out).1 2
          have b2 : wr.cell? ⟨w.heap.size + 1, 2, none⟩ = some (.int .i64 x.fin.kind) := (blk HB1.out).1 2
          have a3 : wr.cell? ⟨w.heap.size, 3, none⟩ = some (.bool x.fin.onr) := (blk HA1.out).1 3
          have b3 : wr.cell? ⟨w.heap.size + 1, 3, none⟩ = some (.bool x.fin.onr) := (blk HB1.out).1 3
          have a4 : wr.cell? ⟨w.heap.size, 4, none⟩ = some (.int .i64 x.fin.onn) := (blk HA1.out).1 4
          have b4 : wr.cell? ⟨w.heap.size + 1, 4, none⟩ = some (.int .i64 x.fin.onn) := (blk HB1.out).1 4
          have a5 : wr.cell? ⟨w.heap.size, 5, none⟩ = some (.slice p3 x.fin.to.length c3) := (blk HA1.out).1 5
          have b5 : wr.cell? ⟨w.heap.size + 1, 5, none⟩ = some (.slice q3 x.fin.to.length d3) := (blk HB1.out).1 5
          go_wp2_with fail
          refine (intsS x.fin.to p3 q3 c3 d3 wr hlto (HT.out.mono HBw.out (by omega) fun _ _ h => h) (GT.out.mono HBw.out (by omega) fun _ _ h => h)).mono ?_
          rintro e w2 ⟨rfl, hb2⟩
          have HN : Hid (Below w.heap.size w w2) := HBw.out.trans (hb2.mono HBw.out.size)
          clear hb2
          go_wp2
          go_ret
          exact ⟨rfl, HN.out⟩

theorem blkParts {w : World} {x : BlkL} {v1 v2 v3 : Value} (h : BlkR w [v1, v2, .int .i64 x.fin.kind, .bool x.fin.onr, .int .i64 x.fin.onn, v3] x) : SlF w 2 32 (PhiR w) v1 x.phis ∧ SlF w 8 80 (InsR w) v2 x.list ∧ SlF w 1 8 IntR v3 x.fin.to := by
  obtain ⟨_, _, _, e, _, _, h1, h2, h3⟩ := h
  simp only [List.cons.injEq, and_true, true_and] at e
  obtain ⟨rfl, rfl, rfl⟩ := e
  exact ⟨h1, h2, h3⟩
/-- a block of a slice that is there, with its cells -/
theorem blkSlot {w : World} {p : Option Addr} {xs : List BlkL} (h : SliceAt w 6 (BlkR w) p xs) {i : Nat} (hi : i < xs.length) : ∃ b o q1 c1 q2 c2 q3 c3, p = some ⟨b, o, none⟩ ∧ w.cell? ⟨b, o + i * 6, none⟩ = some (.slice q1 xs[i].phis.length c1) ∧ w.cell? ⟨b, o + i * 6 + 1, none⟩ = some (.slice q2 xs[i].list.length c2) ∧ w.cell? ⟨b, o + i * 6 + 2, none⟩ = some (.int .i64 xs[i].fin.kind) ∧ w.cell? ⟨b, o + i * 6 + 3, none⟩ = some (.bool xs[i].fin.onr) ∧ w.cell? ⟨b, o + i * 6 + 4, none⟩ = some (.int .i64 xs[i].fin.onn) ∧ w.cell? ⟨b, o + i * 6 + 5, none⟩ = some (.slice q3 xs[i].fin.to.length c3) ∧
    SlF w 2 32 (PhiR w) (.slice q1 xs[i].phis.length c1) xs[i].phis ∧ SlF w 8 80 (InsR w) (.slice q2 xs[i].list.length c2) xs[i].list ∧ SlF w 1 8 IntR (.slice q3 xs[i].fin.to.length c3) xs[i].fin.to := by
  rcases h with rfl | ⟨b, o, hp, h⟩
  · simp at hi
  · obtain ⟨cs, _, hc, hr⟩ := h i hi
    obtain ⟨v1, v2, v3, rfl, _, _, h1, h2, h3⟩ := hr
    obtain ⟨q1, c1, rfl, _⟩ := h1.outC
    obtain ⟨q2, c2, rfl, _⟩ := h2.outC
    obtain ⟨q3, c3, rfl, _⟩ := h3.outC
    exact ⟨b, o, q1, c1, q2, c2, q3, c3, hp, hc 0 (by omega), hc 1 (by omega), hc 2 (by omega), hc 3 (by omega), hc 4 (by omega), hc 5 (by omega), h1, h2, h3⟩

set_option maxRecDepth 100000 in
set_option maxHeartbeats 2000000 in
theorem func_same (x : FunL) (p q : Option Addr) (c d : Nat) (w : World) (_hn : x.name.size ≤ reachBytes) (hl : x.blocks.length * 96 ≤ reachBytes) (hP : SliceAt w 6 (BlkR w) p x.blocks) (hQ : SliceAt w 6 (BlkR w) q x.blocks) :
    Calls Tryd.prog 40 #[.agg #[.string x.name, .int .i64 x.params, .int .i64 x.regs, .slice p x.blocks.length c], .agg #[.string x.name, .int .i64 x.params, .int .i64 x.regs, .slice q x.blocks.length d]] w fun e w' => e = .returned (.bool true) ∧ Below w.heap.size w w' := by
  have hlb : x.blocks.length * 96 ≤ 140737488351232 := hl
  have HP := hidI hP
  have HQ := hidI hQ
  clear hP hQ hl
  go_enter Tryd.func40, Tryd.ntmps40
  go_wp2_with fail
  obtain ⟨W0, hW0⟩ : ∃ W0, W0 = (w.alloc (.cells #[.string x.name, .int .i64 x.params, .int .i64 x.regs, .slice p x.blocks.length c] 37)).alloc (.cells #[.string x.name, .int .i64 x.params, .int .i64 x.regs, .slice q x.blocks.length d] 37) := ⟨_, rfl⟩
  rw [← hW0]
  have hz0 : W0.heap.size = w.heap.size + 1 + 1 := by rw [hW0]; simp
  have HB0 : Hid (Below w.heap.size w W0) := hidI (by rw [hW0]; repeat (first | with_reducible exact Below.refl _ _ | with_reducible exact HB3.out | with_reducible refine Below.drew ?_ | with_reducible refine below_drewN ?_ _ | with_reducible refine Below.setCell ?_ ?_ _ | with_reducible refine Below.alloc ?_ ?_ _ | with_reducible exact HB2.out | with_reducible exact HB1.out | with_reducible refine Below.trans ?_ (Below.mono hb3 ?_) | with_reducible refine Below.trans ?_ (Below.mono hb5 ?_) | with_reducible refine Below.trans ?_ (Below.mono hb4 ?_) | omega | (simp; omega) | simp))
  have HA : Hid (W0.heap[w.heap.size]? = some (.cells #[.string x.name, .int .i64 x.params, .int .i64 x.regs, .slice p x.blocks.length c] 37 (0, 0))) := hidI (by rw [hW0]; exact heap_step (heap_at rfl))
  have HB : Hid (W0.heap[w.heap.size + 1]? = some (.cells #[.string x.name, .int .i64 x.params, .int .i64 x.regs, .slice q x.blocks.length d] 37 (0, 0))) := hidI (by rw [hW0]; exact heap_at (by simp))
  clear hW0
  go_loopw [5] (fun i wr => ∃ k : Nat, k ≤ x.blocks.length ∧ i = .int .i64 k ∧ Below W0.heap.size W0 wr) (fun i _ => x.blocks.length - (intOf i).toNat)
  case atStart => exact ⟨0, by omega, rfl, Below.refl _ _⟩
  case round =>
    obtain ⟨k, hk, rfl, hb⟩ := hrel
    have HBr := hidI hb
    have HBw : Hid (Below w.heap.size w wr) := HB0.out.trans (hb.mono (by omega))
    have hA := (hb.block w.heap.size (by omega)).trans HA.out
    have hB := (hb.block (w.heap.size + 1) (by omega)).trans HB.out
    have a0 : wr.cell? ⟨w.heap.size, 3, none⟩ = some (.slice p x.blocks.length c) := (blk hA).1 3
    have b0 : wr.cell? ⟨w.heap.size + 1, 3, none⟩ = some (.slice q x.blocks.length d) := (blk hB).1 3
    have za := ltHeap hA
    have zb := ltHeap hB
    clear hb hA hB
    by_cases hlt : k < x.blocks.length
    · obtain ⟨bp, op, q1, c1, q2, c2, q3, c3, hp, e0, e1, e2, e3, e4, e5, s1, s2, s3⟩ := blkSlot (blksMono HP.out HBw.out) hlt
      obtain ⟨bq, oq, r1, d1, r2, d2, r3, d3, hq, f0, f1, f2, f3, f4, f5, t1, t2, t3⟩ := blkSlot (blksMono HQ.out HBw.out) hlt
      subst hp hq
      have hz1 := lt_of_cell e0
      have hz2 := lt_of_cell f0
      have HS := hidI (And.intro s1 (And.intro s2 (And.intro s3 (And.intro t1 (And.intro t2 t3)))))
      clear s1 s2 s3 t1 t2 t3
      have g1 : (0 : Int) ≤ (k : Int) := by omega
      have g2 : (k : Int) < x.blocks.length := by omega
      have hbl : ∀ W', Below wr.heap.size wr W' → SlF W' 2 32 (PhiR W') (.slice q1 x.blocks[k].phis.length c1) x.blocks[k].phis ∧ SlF W' 8 80 (InsR W') (.slice q2 x.blocks[k].list.length c2) x.blocks[k].list ∧ SlF W' 1 8 IntR (.slice q3 x.blocks[k].fin.to.length c3) x.blocks[k].fin.to ∧ SlF W' 2 32 (PhiR W') (.slice r1 x.blocks[k].phis.length d1) x.blocks[k].phis ∧ SlF W' 8 80 (InsR W') (.slice r2 x.blocks[k].list.length d2) x.blocks[k].list ∧ SlF W' 1 8 IntR (.slice r3 x.blocks[k].fin.to.length d3) x.blocks[k].fin.to := fun W' h =>
        ⟨HS.out.1.mono h (by omega) fun _ _ g => g.below h, HS.out.2.1.mono h (by omega) fun _ _ g => g.below h, HS.out.2.2.1.mono h (by omega) fun _ _ g => g, HS.out.2.2.2.1.mono h (by omega) fun _ _ g => g.below h, HS.out.2.2.2.2.1.mono h (by omega) fun _ _ g => g.below h, HS.out.2.2.2.2.2.mono h (by omega) fun _ _ g => g⟩
      have HBl := hidI hbl
      clear hbl
      go_wp2_with fail
      go_region_held3 (fun w' => w'.cell? ⟨w.heap.size, 3, none⟩ = some (.slice (some ⟨bp, op, none⟩) x.blocks.length c) ∧ w'.cell? ⟨w.heap.size + 1, 3, none⟩ = some (.slice (some ⟨bq, oq, none⟩) x.blocks.length d) ∧ w'.cell? ⟨bp, op + k * 6, none⟩ = some (.slice q1 x.blocks[k].phis.length c1) ∧ w'.cell? ⟨bp, op + k * 6 + 1, none⟩ = some (.slice q2 x.blocks[k].list.length c2) ∧ w'.cell? ⟨bp, op + k * 6 + 2, none⟩ = some (.int .i64 x.blocks[k].fin.kind) ∧ w'.cell? ⟨bp, op + k * 6 + 3, none⟩ = some (.bool x.blocks[k].fin.onr) ∧ w'.cell? ⟨bp, op + k * 6 + 4, none⟩ = some (.int .i64 x.blocks[k].fin.onn) ∧ w'.cell? ⟨bp, op + k * 6 + 5, none⟩ = some (.slice q3 x.blocks[k].fin.to.length c3) ∧
          w'.cell? ⟨bq, oq + k * 6, none⟩ = some (.slice r1 x.blocks[k].phis.length d1) ∧ w'.cell? ⟨bq, oq + k * 6 + 1, none⟩ = some (.slice r2 x.blocks[k].list.length d2) ∧ w'.cell? ⟨bq, oq + k * 6 + 2, none⟩ = some (.int .i64 x.blocks[k].fin.kind) ∧ w'.cell? ⟨bq, oq + k * 6 + 3, none⟩ = some (.bool x.blocks[k].fin.onr) ∧ w'.cell? ⟨bq, oq + k * 6 + 4, none⟩ = some (.int .i64 x.blocks[k].fin.onn) ∧ w'.cell? ⟨bq, oq + k * 6 + 5, none⟩ = some (.slice r3 x.blocks[k].fin.to.length d3)) (go_keep)
        (first | (go_at_call 74; obtain ⟨t1, t2, t3, t4, t5, t6⟩ := HBl.out wr.drew (Below.refl _ wr).drew; refine (block_same x.blocks[k] _ _ _ _ _ _ _ _ _ _ _ _ _ t1 t2 t3 t4 t5 t6).mono ?_; rintro e w2 ⟨rfl, hb2⟩; have hq1 := fun o => hb2.cell (p := ⟨bp, o, none⟩) (by simpa using hz1); have hq2 := fun o => hb2.cell (p := ⟨bq, o, none⟩) (by simpa using hz2); have hq5 := hb2.cell (p := ⟨w.heap.size, 3, none⟩) (by simpa using za); have hq6 := hb2.cell (p := ⟨w.heap.size + 1, 3, none⟩) (by simpa using zb)))
      all_goals
        have HN : Hid (Below W0.heap.size W0 w2) := HBr.out.trans (Below.trans (by repeat (first | with_reducible exact Below.refl _ _ | with_reducible exact HB3.out | with_reducible refine Below.drew ?_ | with_reducible refine below_drewN ?_ _ | with_reducible refine Below.setCell ?_ ?_ _ | with_reducible refine Below.alloc ?_ ?_ _ | with_reducible exact HB2.out | with_reducible exact HB1.out | with_reducible refine Below.trans ?_ (Below.mono hb3 ?_) | with_reducible refine Below.trans ?_ (Below.mono hb5 ?_) | with_reducible refine Below.trans ?_ (Below.mono hb4 ?_) | omega | (simp; omega) | simp)) (hb2.mono (by simp; exact HBr.out.size)))
        clear hb2 hq1 hq2 hq5 hq6
        go_wp2
        exact ⟨⟨k + 1, by omega, by go_num, HN.out⟩, by simp [intOf]; omega⟩
    · obtain rfl : k = x.blocks.length := by omega
      go_wp2_with fail
      go_ret
      exact ⟨rfl, HBw.out⟩

theorem glosS {w : World} {p : Option Addr} {xs : List GloL} (h : SliceAt w 3 (GloR w) p xs) {i : Nat} (hi : i < xs.length) : ∃ b o q c, p = some ⟨b, o, none⟩ ∧ w.cell? ⟨b, o + i * 3, none⟩ = some (.string xs[i].name) ∧ w.cell? ⟨b, o + i * 3 + 1, none⟩ = some (.int .i64 xs[i].size) ∧ w.cell? ⟨b, o + i * 3 + 2, none⟩ = some (.slice q xs[i].init.length c) ∧ xs[i].init.length * 8 ≤ 140737488351232 ∧ SliceAt w 1 IntR q xs[i].init := by
  obtain ⟨b, o, q, c, hp, h1, h2, h3, _, _, h4, h5⟩ := gloGet h (Below.refl _ _) hi
  exact ⟨b, o, q, c, hp, h1, h2, h3, h4, h5⟩
set_option maxRecDepth 100000 in
set_option maxHeartbeats 2000000 in
theorem globals_same (xs : List GloL) (p q : Option Addr) (c d : Nat) (w : World) (hl : xs.length * 48 ≤ reachBytes) (hP : SliceAt w 3 (GloR w) p xs) (hQ : SliceAt w 3 (GloR w) q xs) :
    Calls Tryd.prog 39 #[.slice p xs.length c, .slice q xs.length d] w fun e w' => e = .returned (.bool true) ∧ Below w.heap.size w w' := by
  have hlb : xs.length * 48 ≤ 140737488351232 := hl
  have HP := hidI hP
  have HQ := hidI hQ
  clear hP hQ hl
  have hle : ((xs.length : Int) != xs.length) = false := by simp
  go_enter Tryd.func39, Tryd.ntmps39
  go_wp2_with fail
  go_loopw [5] (fun i wr => ∃ k : Nat, k ≤ xs.length ∧ i = .int .i64 k ∧ Below w.heap.size w wr) (fun i _ => xs.length - (intOf i).toNat)
  case atStart => exact ⟨0, by omega, rfl, Below.refl _ _⟩
  case round =>
    obtain ⟨k, hk, rfl, hb⟩ := hrel
    have HBr := hidI hb
    clear hb
    by_cases hlt : k < xs.length
    · obtain ⟨bp, op, qa, ca, hp, e0, e1, e2, l1, s1⟩ := glosS (glosMono HP.out HBr.out) hlt
      obtain ⟨bq, oq, qb, cb, hq, f0, f1, f2, l2, s2⟩ := glosS (glosMono HQ.out HBr.out) hlt
      subst hp hq
      have hz1 := lt_of_cell e0
      have hz2 := lt_of_cell f0
      have HS1 := hidI s1
      have HS2 := hidI s2
      clear s1 s2
      have g1 : (0 : Int) ≤ (k : Int) := by omega
      have g2 : (k : Int) < xs.length := by omega
      go_wp2_with fail
      go_region_held3 (fun w' => w'.cell? ⟨bp, op + k * 3, none⟩ = some (.string xs[k].name) ∧ w'.cell? ⟨bp, op + k * 3 + 1, none⟩ = some (.int .i64 xs[k].size) ∧ w'.cell? ⟨bp, op + k * 3 + 2, none⟩ = some (.slice qa xs[k].init.length ca) ∧ w'.cell? ⟨bq, oq + k * 3, none⟩ = some (.string xs[k].name) ∧ w'.cell? ⟨bq, oq + k * 3 + 1, none⟩ = some (.int .i64 xs[k].size) ∧ w'.cell? ⟨bq, oq + k * 3 + 2, none⟩ = some (.slice qb xs[k].init.length cb)) (go_keep)
        (first | (go_at_call 73; refine (intsS xs[k].init _ _ _ _ _ l1 (HS1.out.mono (by repeat (first | with_reducible exact Below.refl _ _ | with_reducible exact HB3.out | with_reducible refine Below.drew ?_ | with_reducible refine below_drewN ?_ _ | with_reducible refine Below.setCell ?_ ?_ _ | with_reducible refine Below.alloc ?_ ?_ _ | with_reducible exact HB2.out | with_reducible exact HB1.out | with_reducible refine Below.trans ?_ (Below.mono hb3 ?_) | with_reducible refine Below.trans ?_ (Below.mono hb5 ?_) | with_reducible refine Below.trans ?_ (Below.mono hb4 ?_) | omega | (simp; omega) | simp)) (by omega) fun _ _ h => h) (HS2.out.mono (by repeat (first | with_reducible exact Below.refl _ _ | with_reducible exact HB3.out | with_reducible refine Below.drew ?_ | with_reducible refine below_drewN ?_ _ | with_reducible refine Below.setCell ?_ ?_ _ | with_reducible refine Below.alloc ?_ ?_ _ | with_reducible exact HB2.out | with_reducible exact HB1.out | with_reducible refine Below.trans ?_ (Below.mono hb3 ?_) | with_reducible refine Below.trans ?_ (Below.mono hb5 ?_) | with_reducible refine Below.trans ?_ (Below.mono hb4 ?_) | omega | (simp; omega) | simp)) (by omega) fun _ _ h => h)).mono ?_; rintro e w2 ⟨rfl, hb2⟩; have hq1 := fun o => hb2.cell (p := ⟨bp, o, none⟩) (by simpa using hz1); have hq2 := fun o => hb2.cell (p := ⟨bq, o, none⟩) (by simpa using hz2)))
      all_goals
        have HN : Hid (Below w.heap.size w w2) := HBr.out.trans (Below.trans (by repeat (first | with_reducible exact Below.refl _ _ | with_reducible exact HB3.out | with_reducible refine Below.drew ?_ | with_reducible refine below_drewN ?_ _ | with_reducible refine Below.setCell ?_ ?_ _ | with_reducible refine Below.alloc ?_ ?_ _ | with_reducible exact HB2.out | with_reducible exact HB1.out | with_reducible refine Below.trans ?_ (Below.mono hb3 ?_) | with_reducible refine Below.trans ?_ (Below.mono hb5 ?_) | with_reducible refine Below.trans ?_ (Below.mono hb4 ?_) | omega | (simp; omega) | simp)) (hb2.mono (by simp; exact HBr.out.size)))
        clear hb2 hq1 hq2
        go_wp2
        exact ⟨⟨k + 1, by omega, by go_num, HN.out⟩, by simp [intOf]; omega⟩
    · obtain rfl : k = xs.length := by omega
      go_wp2_with fail
      go_ret
      exact ⟨rfl, HBr.out⟩
end Go.Proofs.YtdjamkinijhjoaaDoor
namespace Go.Proofs.YtdjamkinijhjoaaDoor
open Go.RowKit

theorem underNone (w : World) : (binOp .eql 3 (.int .i64 0) (.int .i64 0)).run Tryd.prog w = .ok (.bool true) w := rfl
set_option maxRecDepth 100000 in
set_option maxHeartbeats 2000000 in
theorem units_same (x : UniL) (p1 p2 q1 q2 : Option Addr) (c1 c2 d1 d2 : Nat) (w : World) (hG : SlF w 3 48 (GloR w) (.slice p1 x.globals.length c1) x.globals) (hF : SlF w 4 56 (FunR w) (.slice p2 x.funcs.length c2) x.funcs) (gG : SlF w 3 48 (GloR w) (.slice q1 x.globals.length d1) x.globals) (gF : SlF w 4 56 (FunR w) (.slice q2 x.funcs.length d2) x.funcs) :
    Calls Tryd.prog 16 #[.agg #[.slice p1 x.globals.length c1, .slice p2 x.funcs.length c2], .agg #[.slice q1 x.globals.length d1, .slice q2 x.funcs.length d2]] w fun e w' => e = .returned (.bool true) ∧ Below w.heap.size w w' := by
  have hlf : x.funcs.length * 56 ≤ 140737488351232 := hF.bdC
  have HBd := hidI hG.bdC
  have hG' : SliceAt w 3 (GloR w) p1 x.globals := by obtain ⟨_, _, e, _, _, h⟩ := hG.outC; cases e; exact h
  have hF' : SliceAt w 4 (FunR w) p2 x.funcs := by obtain ⟨_, _, e, _, _, h⟩ := hF.outC; cases e; exact h
  have gG' : SliceAt w 3 (GloR w) q1 x.globals := by obtain ⟨_, _, e, _, _, h⟩ := gG.outC; cases e; exact h
  have gF' : SliceAt w 4 (FunR w) q2 x.funcs := by obtain ⟨_, _, e, _, _, h⟩ := gF.outC; cases e; exact h
  have HG := hidI hG'
  have HF := hidI hF'
  have GG := hidI gG'
  have GF := hidI gF'
  clear hG hF gG gF hG' hF' gG' gF'
  have hle : ((x.funcs.length : Int) != x.funcs.length) = false := by simp
  go_enter Tryd.func16, Tryd.ntmps16
  go_wp2_with fail
  refine (globals_same x.globals _ _ _ _ _ HBd.out (glosMono HG.out (by repeat (first | with_reducible exact Below.refl _ _ | with_reducible exact HB3.out | with_reducible refine Below.drew ?_ | with_reducible refine below_drewN ?_ _ | with_reducible refine Below.setCell ?_ ?_ _ | with_reducible refine Below.alloc ?_ ?_ _ | with_reducible exact HB2.out | with_reducible exact HB1.out | with_reducible refine Below.trans ?_ (Below.mono hb3 ?_) | with_reducible refine Below.trans ?_ (Below.mono hb5 ?_) | with_reducible refine Below.trans ?_ (Below.mono hb4 ?_) | omega | (simp; omega) | simp))) (glosMono GG.out (by repeat (first | with_reducible exact Below.refl _ _ | with_reducible exact HB3.out | with_reducible refine Below.drew ?_ | with_reducible refine below_drewN ?_ _ | with_reducible refine Below.setCell ?_ ?_ _ | with_reducible refine Below.alloc ?_ ?_ _ | with_reducible exact HB2.out | with_reducible exact HB1.out | with_reducible refine Below.trans ?_ (Below.mono hb3 ?_) | with_reducible refine Below.trans ?_ (Below.mono hb5 ?_) | with_reducible refine Below.trans ?_ (Below.mono hb4 ?_) | omega | (simp; omega) | simp)))).mono ?_
  rintro e w1 ⟨rfl, hb1⟩
  have HB1 : Hid (Below w.heap.size w w1) := Below.trans (by repeat (first | with_reducible exact Below.refl _ _ | with_reducible exact HB3.out | with_reducible refine Below.drew ?_ | with_reducible refine below_drewN ?_ _ | with_reducible refine Below.setCell ?_ ?_ _ | with_reducible refine Below.alloc ?_ ?_ _ | with_reducible exact HB2.out | with_reducible exact HB1.out | with_reducible refine Below.trans ?_ (Below.mono hb3 ?_) | with_reducible refine Below.trans ?_ (Below.mono hb5 ?_) | with_reducible refine Below.trans ?_ (Below.mono hb4 ?_) | omega | (simp; omega) | simp)) (hb1.mono (by simp; omega))
  have HA := hidI (heap_below hb1 (k := w.heap.size) (by simp; omega) (heap_step (heap_at (w := w) (o := .cells #[.slice p1 x.globals.length c1, .slice p2 x.funcs.length c2] 25) rfl)))
  have HB := hidI (heap_below hb1 (k := w.heap.size + 1) (by simp) (heap_at (w := w.alloc (.cells #[.slice p1 x.globals.length c1, .slice p2 x.funcs.length c2] 25)) (o := .cells #[.slice q1 x.globals.length d1, .slice q2 x.funcs.length d2] 25) (by simp)))
  have a1 : w1.cell? ⟨w.heap.size, 1, none⟩ = some (.slice p2 x.funcs.length c2) := (blk HA.out).1 1
  have b1 : w1.cell? ⟨w.heap.size + 1, 1, none⟩ = some (.slice q2 x.funcs.length d2) := (blk HB.out).1 1
  clear hb1
  go_wp2_with fail
  clear a1 b1
  go_loopw [5] (fun i wr => ∃ k : Nat, k ≤ x.funcs.length ∧ i = .int .i64 k ∧ Below w1.heap.size w1 wr) (fun i _ => x.funcs.length - (intOf i).toNat)
  case atStart => exact ⟨0, by omega, rfl, Below.refl _ _⟩
  case round =>
    obtain ⟨k, hk, rfl, hb⟩ := hrel
    have HBr := hidI hb
    have HBw : Hid (Below w.heap.size w wr) := HB1.out.trans (hb.mono HB1.out.size)
    have hA := (hb.block w.heap.size (ltHeap HA.out)).trans HA.out
    have hB := (hb.block (w.heap.size + 1) (ltHeap HB.out)).trans HB.out
    have a1 : wr.cell? ⟨w.heap.size, 1, none⟩ = some (.slice p2 x.funcs.length c2) := (blk hA).1 1
    have b1 : wr.cell? ⟨w.heap.size + 1, 1, none⟩ = some (.slice q2 x.funcs.length d2) := (blk hB).1 1
    have za := ltHeap hA
    have zb := ltHeap hB
    clear hb hA hB
    by_cases hlt : k < x.funcs.length
    · obtain ⟨bp, op, qa, ca, hp, e0, e1, e2, e3, n1, _, _, l1, s1⟩ := funGet HF.out HBw.out hlt
      obtain ⟨bq, oq, qb, cb, hq, f0, f1, f2, f3, n2, _, _, l2, s2⟩ := funGet GF.out HBw.out hlt
      subst hp hq
      have hz1 := lt_of_cell e0
      have hz2 := lt_of_cell f0
      have HS1 := hidI s1
      have HS2 := hidI s2
      clear s1 s2
      have g1 : (0 : Int) ≤ (k : Int) := by omega
      have g2 : (k : Int) < x.funcs.length := by omega
      go_wp2_with fail
      go_region_held3 (fun w' => w'.cell? ⟨w.heap.size, 1, none⟩ = some (.slice (some ⟨bp, op, none⟩) x.funcs.length c2) ∧ w'.cell? ⟨w.heap.size + 1, 1, none⟩ = some (.slice (some ⟨bq, oq, none⟩) x.funcs.length d2) ∧ w'.cell? ⟨bp, op + k * 4, none⟩ = some (.string x.funcs[k].name) ∧ w'.cell? ⟨bp, op + k * 4 + 1, none⟩ = some (.int .i64 x.funcs[k].params) ∧ w'.cell? ⟨bp, op + k * 4 + 2, none⟩ = some (.int .i64 x.funcs[k].regs) ∧ w'.cell? ⟨bp, op + k * 4 + 3, none⟩ = some (.slice qa x.funcs[k].blocks.length ca) ∧ w'.cell? ⟨bq, oq + k * 4, none⟩ = some (.string x.funcs[k].name) ∧ w'.cell? ⟨bq, oq + k * 4 + 1, none⟩ = some (.int .i64 x.funcs[k].params) ∧ w'.cell? ⟨bq, oq + k * 4 + 2, none⟩ = some (.int .i64 x.funcs[k].regs) ∧ w'.cell? ⟨bq, oq + k * 4 + 3, none⟩ = some (.slice qb x.funcs[k].blocks.length cb)) (go_keep)
        (first | (go_at_call 40; refine (func_same x.funcs[k] _ _ _ _ _ n1 l1 (blksMono HS1.out (by repeat (first | with_reducible exact Below.refl _ _ | with_reducible exact HB3.out | with_reducible refine Below.drew ?_ | with_reducible refine below_drewN ?_ _ | with_reducible refine Below.setCell ?_ ?_ _ | with_reducible refine Below.alloc ?_ ?_ _ | with_reducible exact HB2.out | with_reducible exact HB1.out | with_reducible refine Below.trans ?_ (Below.mono hb3 ?_) | with_reducible refine Below.trans ?_ (Below.mono hb5 ?_) | with_reducible refine Below.trans ?_ (Below.mono hb4 ?_) | omega | (simp; omega) | simp))) (blksMono HS2.out (by repeat (first | with_reducible exact Below.refl _ _ | with_reducible exact HB3.out | with_reducible refine Below.drew ?_ | with_reducible refine below_drewN ?_ _ | with_reducible refine Below.setCell ?_ ?_ _ | with_reducible refine Below.alloc ?_ ?_ _ | with_reducible exact HB2.out | with_reducible exact HB1.out | with_reducible refine Below.trans ?_ (Below.mono hb3 ?_) | with_reducible refine Below.trans ?_ (Below.mono hb5 ?_) | with_reducible refine Below.trans ?_ (Below.mono hb4 ?_) | omega | (simp; omega) | simp)))).mono ?_; rintro e w2 ⟨rfl, hb2⟩; have hq1 := fun o => hb2.cell (p := ⟨bp, o, none⟩) (by simpa using hz1); have hq2 := fun o => hb2.cell (p := ⟨bq, o, none⟩) (by simpa using hz2); have hq5 := hb2.cell (p := ⟨w.heap.size, 1, none⟩) (by simpa using za); have hq6 := hb2.cell (p := ⟨w.heap.size + 1, 1, none⟩) (by simpa using zb)))
      all_goals
        have HN : Hid (Below w1.heap.size w1 w2) := HBr.out.trans (Below.trans (by repeat (first | with_reducible exact Below.refl _ _ | with_reducible exact HB3.out | with_reducible refine Below.drew ?_ | with_reducible refine below_drewN ?_ _ | with_reducible refine Below.setCell ?_ ?_ _ | with_reducible refine Below.alloc ?_ ?_ _ | with_reducible exact HB2.out | with_reducible exact HB1.out | with_reducible refine Below.trans ?_ (Below.mono hb3 ?_) | with_reducible refine Below.trans ?_ (Below.mono hb5 ?_) | with_reducible refine Below.trans ?_ (Below.mono hb4 ?_) | omega | (simp; omega) | simp)) (hb2.mono (by simp; exact HBr.out.size)))
        clear hb2 hq1 hq2 hq5 hq6
        go_wp2
        exact ⟨⟨k + 1, by omega, by go_num, HN.out⟩, by simp [intOf]; omega⟩
    · obtain rfl : k = x.funcs.length := by omega
      go_wp2_with fail
      go_ret
      exact ⟨rfl, HBw.out⟩

set_option maxHeartbeats 400000 in
theorem none_none (w : World) : Calls Tryd.prog 15 #[.agg #[.slice none 0 0, .slice none 0 0]] w fun e w' => e = .returned (.bool true) ∧ Below w.heap.size w w' := by
  go_enter Tryd.func15, Tryd.ntmps15
  go_wp2_with fail
  go_ret
  exact ⟨rfl, by repeat (first | with_reducible exact Below.refl _ _ | with_reducible exact HB3.out | with_reducible refine Below.drew ?_ | with_reducible refine below_drewN ?_ _ | with_reducible refine Below.setCell ?_ ?_ _ | with_reducible refine Below.alloc ?_ ?_ _ | with_reducible exact HB2.out | with_reducible exact HB1.out | with_reducible refine Below.trans ?_ (Below.mono hb3 ?_) | with_reducible refine Below.trans ?_ (Below.mono hb5 ?_) | with_reducible refine Below.trans ?_ (Below.mono hb4 ?_) | omega | (simp; omega) | simp)⟩
end Go.Proofs.YtdjamkinijhjoaaDoor
