/-
  CallsNever: the walk of the law.
-/
import Derived.Test.YtlalmbklhmpngaaDoorRunX
import Derived.Test.YtlalmbklhmpngaaDoorBRunS
import Derived.WalkKit
import Derived.WalkSpells
import Derived.WalkLawsBesides
namespace Go.Proofs.YtlalmbklhmpngaaDoor
open Go.RowKit

theorem reachL_get {xs : List FunL} {m k : Nat} (h : k < (reachL xs m).length) : (reachL xs m)[k] = tableU xs m k := by simp [reachL]
theorem reachL_len (xs : List FunL) (m : Nat) : (reachL xs m).length = xs.length := by simp [reachL]
theorem runO_fine {u : UniL} {inp : List Int} {fuel : Int} (h : (runF u inp.length fuel).1 = 0) : runO u inp fuel = runU u inp fuel.toNat := by unfold runO; rw [if_pos h]
theorem rc_un_ok {u : UniL} {gp fp : Option Addr} {gc fc m : Nat} {w : World} (hUn : UnA u gp fp w) (h : (chk u).1 = 0) (hm : mainI u.funcs = some m) :
    Calls Tryd.prog 25 #[.agg #[.slice gp u.globals.length gc, .slice fp u.funcs.length fc]] w fun e w' => ∃ T, e = .returned (.tuple #[.slice (some ⟨T, 0, none⟩) u.funcs.length u.funcs.length, .agg #[.int .i64 0, .int .i64 0]]) ∧ SliceAt w' 1 BoolR (some ⟨T, 0, none⟩) (reachL u.funcs m) ∧ Below w.heap.size w w' :=
  rc_ok u gp fp gc fc m w hUn.gl hUn.glo hUn.fl hUn.fns hUn.ways h hm
theorem rc_un_bad {u : UniL} {gp fp : Option Addr} {gc fc : Nat} {w : World} (hUn : UnA u gp fp w) (h : (chk u).1 ≠ 0) :
    Calls Tryd.prog 25 #[.agg #[.slice gp u.globals.length gc, .slice fp u.funcs.length fc]] w fun e w' => e = .returned (.tuple #[.slice none 0 0, .agg #[.int .i64 (chk u).1, .int .i64 (chk u).2]]) ∧ Below w.heap.size w w' :=
  rc_bad u gp fp gc fc w hUn.gl hUn.glo hUn.fl hUn.fns hUn.ways h

set_option maxRecDepth 100000 in
set_option maxHeartbeats 1000000 in
theorem never_bad {u : UniL} {gp fp : Option Addr} {gc fc : Nat} {w : World} (hUn : UnA u gp fp w) (lp : Option Addr) (ll lc : Nat) (fuel : Int) (h : (chk u).1 ≠ 0) :
    Calls Tryd.prog 8 #[.agg #[.slice gp u.globals.length gc, .slice fp u.funcs.length fc], .slice lp ll lc, .int .i64 fuel] w fun e w' => e = .returned (.bool true) ∧ Below w.heap.size w w' := by
  have HUn := hidI hUn
  have hq : ((chk u).1 == (0 : Int)) = false := by rw [beq_eq_false_iff_ne]; exact h
  have HH := hidI h
  clear hUn h
  go_enter Tryd.func8, Tryd.ntmps8
  go_wp2_with fail
  refine (rc_un_bad (HUn.out.mono (by repeat (first | with_reducible exact Below.refl _ _ | with_reducible exact HB3.out | with_reducible refine Below.drew ?_ | with_reducible refine below_drewN ?_ _ | with_reducible refine Below.setCell ?_ ?_ _ | with_reducible refine Below.alloc ?_ ?_ _ | with_reducible exact HB2.out | with_reducible exact HB1.out | with_reducible refine Below.trans ?_ (Below.mono hb3 ?_) | with_reducible refine Below.trans ?_ (Below.mono hb5 ?_) | with_reducible refine Below.trans ?_ (Below.mono hb4 ?_) | omega | (simp; omega) | simp))) HH.out).mono ?_
  rintro e w2 ⟨rfl, hb2⟩
  have HB1 : Hid (Below w.heap.size w w2) := Below.trans (by repeat (first | with_reducible exact Below.refl _ _ | with_reducible exact HB3.out | with_reducible refine Below.drew ?_ | with_reducible refine below_drewN ?_ _ | with_reducible refine Below.setCell ?_ ?_ _ | with_reducible refine Below.alloc ?_ ?_ _ | with_reducible exact HB2.out | with_reducible exact HB1.out | with_reducible refine Below.trans ?_ (Below.mono hb3 ?_) | with_reducible refine Below.trans ?_ (Below.mono hb5 ?_) | with_reducible refine Below.trans ?_ (Below.mono hb4 ?_) | omega | (simp; omega) | simp)) (hb2.mono (by first | (simp; done) | (simp; omega)))
  have hzz := HB1.out.size
  clear hb2
  go_wp2_with fail
  go_ret
  exact ⟨rfl, by repeat (first | with_reducible exact Below.refl _ _ | with_reducible exact HB3.out | with_reducible refine Below.drew ?_ | with_reducible refine below_drewN ?_ _ | with_reducible refine Below.setCell ?_ ?_ _ | with_reducible refine Below.alloc ?_ ?_ _ | with_reducible exact HB2.out | with_reducible exact HB1.out | with_reducible refine Below.trans ?_ (Below.mono hb3 ?_) | with_reducible refine Below.trans ?_ (Below.mono hb5 ?_) | with_reducible refine Below.trans ?_ (Below.mono hb4 ?_) | omega | (simp; omega) | simp)⟩

set_option maxRecDepth 100000 in
set_option maxHeartbeats 1000000 in
theorem never_ok {u : UniL} {gp fp : Option Addr} {gc fc : Nat} {w : World} (hUn : UnA u gp fp w) (inp : List Int) (lp : Option Addr) (lc : Nat) (fuel : Int) (hI : SliceAt w 1 IntR lp inp) (hic : inp.length ≤ lc) (hip : lp = none → lc = 0) (h : (chk u).1 = 0) :
    Calls Tryd.prog 8 #[.agg #[.slice gp u.globals.length gc, .slice fp u.funcs.length fc], .slice lp inp.length lc, .int .i64 fuel] w fun e w' => e = .returned (.bool true) ∧ Below w.heap.size w w' := by
  have HUn := hidI hUn
  have HI := hidI hI
  have HU : Hid (UOk u) := hidI ⟨(chk_ok h).2, U64.of hUn⟩
  obtain ⟨m, hm, hml⟩ := mainI_get HU.out.chk
  have HM := hidI hm
  have HH := hidI h
  have hnf := HU.out.chk.nf
  clear hUn hI hm h
  go_enter Tryd.func8, Tryd.ntmps8
  go_wp2_with fail
  refine (rc_un_ok (HUn.out.mono (by repeat (first | with_reducible exact Below.refl _ _ | with_reducible exact HB3.out | with_reducible refine Below.drew ?_ | with_reducible refine below_drewN ?_ _ | with_reducible refine Below.setCell ?_ ?_ _ | with_reducible refine Below.alloc ?_ ?_ _ | with_reducible exact HB2.out | with_reducible exact HB1.out | with_reducible refine Below.trans ?_ (Below.mono hb3 ?_) | with_reducible refine Below.trans ?_ (Below.mono hb5 ?_) | with_reducible refine Below.trans ?_ (Below.mono hb4 ?_) | omega | (simp; omega) | simp))) HH.out HM.out).mono ?_
  rintro e w2 ⟨T, rfl, hS2, hb2⟩
  have HB1 : Hid (Below w.heap.size w w2) := Below.trans (by repeat (first | with_reducible exact Below.refl _ _ | with_reducible exact HB3.out | with_reducible refine Below.drew ?_ | with_reducible refine below_drewN ?_ _ | with_reducible refine Below.setCell ?_ ?_ _ | with_reducible refine Below.alloc ?_ ?_ _ | with_reducible exact HB2.out | with_reducible exact HB1.out | with_reducible refine Below.trans ?_ (Below.mono hb3 ?_) | with_reducible refine Below.trans ?_ (Below.mono hb5 ?_) | with_reducible refine Below.trans ?_ (Below.mono hb4 ?_) | omega | (simp; omega) | simp)) (hb2.mono (by first | (simp; done) | (simp; omega)))
  have h2a : w2.heap[w.heap.size]? = some (.cells #[.slice gp u.globals.length gc, .slice fp u.funcs.length fc] 35 (0, 0)) := heap_below hb2 (k := w.heap.size) (by simp) (heap_here w _)
  have H2 := hidI h2a
  obtain ⟨hcc, hcf⟩ := blk h2a
  have hz := (Array.getElem?_eq_some_iff.1 h2a).1
  have HS2 := hidI hS2
  clear hb2 h2a hS2
  go_wp2_with fail
  refine (counts_any (HUn.out.mono (HB1.out.trans (by repeat (first | with_reducible exact Below.refl _ _ | with_reducible exact HB3.out | with_reducible refine Below.drew ?_ | with_reducible refine below_drewN ?_ _ | with_reducible refine Below.setCell ?_ ?_ _ | with_reducible refine Below.alloc ?_ ?_ _ | with_reducible exact HB2.out | with_reducible exact HB1.out | with_reducible refine Below.trans ?_ (Below.mono hb3 ?_) | with_reducible refine Below.trans ?_ (Below.mono hb5 ?_) | with_reducible refine Below.trans ?_ (Below.mono hb4 ?_) | omega | (simp; omega) | simp)))) inp lp lc fuel (HI.out.mono (HB1.out.trans (by repeat (first | with_reducible exact Below.refl _ _ | with_reducible exact HB3.out | with_reducible refine Below.drew ?_ | with_reducible refine below_drewN ?_ _ | with_reducible refine Below.setCell ?_ ?_ _ | with_reducible refine Below.alloc ?_ ?_ _ | with_reducible exact HB2.out | with_reducible exact HB1.out | with_reducible refine Below.trans ?_ (Below.mono hb3 ?_) | with_reducible refine Below.trans ?_ (Below.mono hb5 ?_) | with_reducible refine Below.trans ?_ (Below.mono hb4 ?_) | omega | (simp; omega) | simp))) (by omega) fun _ _ g => g) hic hip).mono ?_
  rintro e w3 ⟨cp, cl, cc, p, c, rfl, hA, _, _, hb3⟩
  have hb23 : Below w2.heap.size w2 w3 := Below.trans (by repeat (first | with_reducible exact Below.refl _ _ | with_reducible exact HB3.out | with_reducible refine Below.drew ?_ | with_reducible refine below_drewN ?_ _ | with_reducible refine Below.setCell ?_ ?_ _ | with_reducible refine Below.alloc ?_ ?_ _ | with_reducible exact HB2.out | with_reducible exact HB1.out | with_reducible refine Below.trans ?_ (Below.mono hb3 ?_) | with_reducible refine Below.trans ?_ (Below.mono hb5 ?_) | with_reducible refine Below.trans ?_ (Below.mono hb4 ?_) | omega | (simp; omega) | simp)) (hb3.mono (by simp))
  have HB2 : Hid (Below w.heap.size w w3) := HB1.out.trans (hb23.mono HB1.out.size)
  have h3a := heap_below hb23 hz H2.out
  obtain ⟨hcc3, hcf3⟩ := blk h3a
  have hz3 := (Array.getElem?_eq_some_iff.1 h3a).1
  have HB23 := hidI hb23
  have HA := hidI hA
  clear hb3 hb23 hA h3a hcc hcf
  by_cases hF : (runF u inp.length fuel).1 = 0
  · obtain ⟨CT, rfl, rfl, hA⟩ := HA.out hF
    have hq : ((runF u inp.length fuel).1 == (0 : Int)) = true := by rw [hF]; rfl
    obtain ⟨C, hC⟩ := hA.cnt
    have HC := hidI hC
    have HFz := hidI hF
    clear hA hC hF HA
    go_wp2_with fail
    go_loop [12] (fun i => ∃ k : Nat, k ≤ u.funcs.length ∧ i = .int .i64 k) (fun i => u.funcs.length - (intOf i).toNat)
    case atStart => exact ⟨0, by omega, rfl⟩
    case round =>
      obtain ⟨k, hk, rfl⟩ := hrel
      by_cases hlt : k < u.funcs.length
      · obtain ⟨c0, hrow⟩ := HC.out k hlt
        obtain ⟨b4, o4, hp4, r0⟩ := boolGet HS2.out HB23.out (i := k) (by rw [reachL_len]; exact hlt)
        cases hp4
        rw [reachL_get, Nat.zero_add] at r0
        have z0 := lt_of_cell c0
        have z1 := lt_of_cell r0
        have HRow := hidI hrow
        obtain ⟨_, _, nb1, nb2, _⟩ := HU.out.fn hlt
        clear hrow
        go_wp2_with fail
        go_loop [13] (fun i => ∃ b : Nat, b ≤ (fnU u k).blocks.length ∧ i = .int .i64 b) (fun i => (fnU u k).blocks.length - (intOf i).toNat)
        case atStart => exact ⟨0, by omega, rfl⟩
        case round =>
          obtain ⟨b, hb, rfl⟩ := hrel
          by_cases hlb : b < (fnU u k).blocks.length
          · have d0 := HRow.out.cell hlb
            have z2 := lt_of_cell d0
            cases hr : tableU u.funcs m k with
            | true =>
              rw [hr] at r0
              go_wp2
              exact ⟨⟨b + 1, by omega, by go_num⟩, by simp [intOf]; omega⟩
            | false =>
              rw [hr] at r0
              have hn : (runO u inp fuel).cnt k b = 0 := by
                rw [runO_fine HFz.out]
                exact run_never HU.out HM.out (fun x hx => (slice_mem HI.out hx).elim fun _ h => h.2) _ hlt hr b
              rw [hn] at d0
              go_wp2
              exact ⟨⟨b + 1, by omega, by go_num⟩, by simp [intOf]; omega⟩
          · obtain rfl : b = (fnU u k).blocks.length := by omega
            go_wp2
            exact ⟨⟨k + 1, by omega, by go_num⟩, by simp [intOf]; omega⟩
      · obtain rfl : k = u.funcs.length := by omega
        go_wp2
        go_ret
        exact ⟨rfl, by repeat (first | with_reducible exact Below.refl _ _ | with_reducible exact HB3.out | with_reducible refine Below.drew ?_ | with_reducible refine below_drewN ?_ _ | with_reducible refine Below.setCell ?_ ?_ _ | with_reducible refine Below.alloc ?_ ?_ _ | with_reducible exact HB2.out | with_reducible exact HB1.out | with_reducible refine Below.trans ?_ (Below.mono hb3 ?_) | with_reducible refine Below.trans ?_ (Below.mono hb5 ?_) | with_reducible refine Below.trans ?_ (Below.mono hb4 ?_) | omega | (simp; omega) | simp)⟩
  · have hq : ((runF u inp.length fuel).1 == (0 : Int)) = false := by rw [beq_eq_false_iff_ne]; exact hF
    clear hF
    go_wp2_with fail
    go_ret
    exact ⟨by simp, by repeat (first | with_reducible exact Below.refl _ _ | with_reducible exact HB3.out | with_reducible refine Below.drew ?_ | with_reducible refine below_drewN ?_ _ | with_reducible refine Below.setCell ?_ ?_ _ | with_reducible refine Below.alloc ?_ ?_ _ | with_reducible exact HB2.out | with_reducible exact HB1.out | with_reducible refine Below.trans ?_ (Below.mono hb3 ?_) | with_reducible refine Below.trans ?_ (Below.mono hb5 ?_) | with_reducible refine Below.trans ?_ (Below.mono hb4 ?_) | omega | (simp; omega) | simp)⟩
theorem never_all (u : UniL) (gp fp : Option Addr) (gc fc : Nat) (xs : List Int) (lp : Option Addr) (lc : Nat) (n : Int) (w : World) (hgl : u.globals.length * 48 ≤ 140737488351232) (hG : SliceAt w 3 (GloR w) gp u.globals) (hfl : u.funcs.length * 56 ≤ 140737488351232) (hF : SliceAt w 4 (FunR w) fp u.funcs) (hw0 : Ways w) (hln : lp = none → xs.length = 0 ∧ lc = 0) (hlc : xs.length ≤ lc) (_ : lc * 8 ≤ reachBytes) (hls : SliceAt w 1 IntR lp xs) (_ : I64 n) :
    Calls Tryd.prog 8 #[.agg #[.slice gp u.globals.length gc, .slice fp u.funcs.length fc], .slice lp xs.length lc, .int .i64 n] w fun e w' => e = .returned (.bool true) ∧ Below w.heap.size w w' := by
  have hUn : UnA u gp fp w := ⟨hgl, hG, hfl, hF, hw0⟩
  by_cases h : (chk u).1 = 0
  · exact never_ok hUn xs lp lc n hls hlc (fun e => (hln e).2) h
  · exact never_bad hUn lp xs.length lc n h
end Go.Proofs.YtlalmbklhmpngaaDoor
