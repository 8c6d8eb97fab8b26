/-
  The contracts of calls.Main, turneryref5.MainOf, turneryref5.CallsOne.
-/
import Derived.Test.YteckkdmgkikeaaaDoorChkS
import Derived.WalkKit
import Derived.WalkSpells
import Derived.WalkLawsBesides
namespace Go.Proofs.YteckkdmgkikeaaaDoor
open Go.RowKit

set_option maxHeartbeats 1000000 in
theorem isMain2_any (nm : ByteArray) (params regs : Int) (bp : Option Addr) (bl bc : Nat) (w : World) :
    Calls Tryd.prog 98 #[.agg #[.string nm, .int .i64 params, .int .i64 regs, .slice bp bl bc]] w fun e w' => e = .returned (.bool (nm.toList == [109, 97, 105, 110])) ∧ Below w.heap.size w w' := by
  go_enter Tryd.func98, Tryd.ntmps98
  go_wp2
  go_ret
  exact ⟨rfl, by repeat (first | with_reducible exact Below.refl _ _ | with_reducible exact HB3.out | with_reducible refine Below.drew ?_ | with_reducible refine below_drewN ?_ _ | with_reducible refine Below.setCell ?_ ?_ _ | with_reducible refine Below.alloc ?_ ?_ _ | with_reducible exact HB2.out | with_reducible exact HB1.out | with_reducible refine Below.trans ?_ (Below.mono hb3 ?_) | with_reducible refine Below.trans ?_ (Below.mono hb5 ?_) | with_reducible refine Below.trans ?_ (Below.mono hb4 ?_) | omega | (simp; omega) | simp)⟩

set_option maxRecDepth 100000 in
set_option maxHeartbeats 1000000 in
theorem indexMain2_any (xs : List FunL) (fp : Option Addr) (fc : Nat) (w : World) (hl : xs.length ≤ 9223372036854775807) (hF : SliceAt w 4 (FunR w) fp xs) :
    Calls Tryd.prog 49 #[.slice fp xs.length fc, .func (.func 98) #[] #[]] w fun e w' => e = .returned (.int .i64 (optI (mainI xs))) ∧ Below w.heap.size w w' := by
  have HF := hidI hF
  clear hF
  go_enter Tryd.func49, Tryd.ntmps49
  go_wp2
  go_loopw [8] (fun i wr => ∃ k : Nat, k ≤ xs.length ∧ i = .int .i64 k ∧ (∀ j (h : j < xs.length), j < k → mainB xs[j] = false) ∧ Below w.heap.size w wr) (fun i _ => xs.length - (intOf i).toNat)
  case atStart => exact ⟨0, by omega, rfl, fun j _ h => by omega, Below.refl _ _⟩
  case round =>
    obtain ⟨k, hk, rfl, hV, hb⟩ := hrel
    have HV := hidI hV
    have HBw := hidI hb
    clear hV hb
    by_cases hlt : k < xs.length
    · obtain ⟨b, o, q, c, hp, e0, e1, e2, e3, _⟩ := funGet HF.out HBw.out hlt
      subst hp
      go_wp2_with fail
      refine (isMain2_any _ _ _ _ _ _ _).mono ?_
      rintro e w3 ⟨rfl, hb3⟩
      have HB3 := hidI hb3
      have HE : Hid (mainB xs[k] = (xs[k].name.toList == [109, 97, 105, 110])) := rfl
      clear hb3
      cases hm : (xs[k].name.toList == [109, 97, 105, 110])
      · have HM : Hid (mainB xs[k] = false) := HE.out.trans hm
        clear hm
        go_wp2_with fail
        refine ⟨⟨k + 1, by omega, by go_num, fun j hj hjk => ?_, HBw.out.trans (HB3.out.mono HBw.out.size)⟩, by simp [intOf]; omega⟩
        by_cases hj2 : j < k
        · exact HV.out j hj hj2
        · obtain rfl : j = k := by omega
          exact HM.out
      · have HM : Hid (mainB xs[k] = true) := HE.out.trans hm
        clear hm
        go_wp2_with fail
        go_ret
        refine ⟨?_, HBw.out.trans (HB3.out.mono HBw.out.size)⟩
        rw [mainI_hit hlt HV.out HM.out]
        rfl
    · go_wp2_with fail
      go_ret
      refine ⟨?_, HBw.out⟩
      rw [mainI_none (fun j hj => HV.out j hj (by omega))]
      rfl

set_option maxHeartbeats 1000000 in
theorem cmain_any (xs : List FunL) (gp fp : Option Addr) (gl gc fc : Nat) (w : World) (hl : xs.length ≤ 9223372036854775807) (hF : SliceAt w 4 (FunR w) fp xs) :
    Calls Tryd.prog 58 #[.agg #[.slice gp gl gc, .slice fp xs.length fc]] w fun e w' => e = .returned (.int .i64 (optI (mainI xs))) ∧ Below w.heap.size w w' := by
  have HF := hidI hF
  clear hF
  go_enter Tryd.func58, Tryd.ntmps58
  go_wp2_with fail
  refine (indexMain2_any xs _ _ _ hl (funsMono HF.out (by repeat (first | with_reducible exact Below.refl _ _ | with_reducible exact HB3.out | with_reducible refine Below.drew ?_ | with_reducible refine below_drewN ?_ _ | with_reducible refine Below.setCell ?_ ?_ _ | with_reducible refine Below.alloc ?_ ?_ _ | with_reducible exact HB2.out | with_reducible exact HB1.out | with_reducible refine Below.trans ?_ (Below.mono hb3 ?_) | with_reducible refine Below.trans ?_ (Below.mono hb5 ?_) | with_reducible refine Below.trans ?_ (Below.mono hb4 ?_) | omega | (simp; omega) | simp)))).mono ?_
  rintro e w1 ⟨rfl, hb1⟩
  go_wp2_with fail
  go_ret
  exact ⟨rfl, Below.trans (by repeat (first | with_reducible exact Below.refl _ _ | with_reducible exact HB3.out | with_reducible refine Below.drew ?_ | with_reducible refine below_drewN ?_ _ | with_reducible refine Below.setCell ?_ ?_ _ | with_reducible refine Below.alloc ?_ ?_ _ | with_reducible exact HB2.out | with_reducible exact HB1.out | with_reducible refine Below.trans ?_ (Below.mono hb3 ?_) | with_reducible refine Below.trans ?_ (Below.mono hb5 ?_) | with_reducible refine Below.trans ?_ (Below.mono hb4 ?_) | omega | (simp; omega) | simp)) (hb1.mono (by simp))⟩

set_option maxHeartbeats 1000000 in
theorem mainOf_any (xs : List FunL) (gp fp : Option Addr) (gl gc fc : Nat) (w : World) (hl : xs.length ≤ 140737488355328) (hF : SliceAt w 4 (FunR w) fp xs) :
    Calls Tryd.prog 28 #[.agg #[.slice gp gl gc, .slice fp xs.length fc]] w fun e w' => e = .returned (.int .i64 (optI (mainI xs))) ∧ Below w.heap.size w w' := by
  have HF := hidI hF
  clear hF
  go_enter Tryd.func28, Tryd.ntmps28
  go_wp2
  go_loop [3] (fun i => ∃ k : Nat, k ≤ xs.length ∧ i = .int .i64 k ∧ (∀ j (h : j < xs.length), j < k → mainB xs[j] = false)) (fun i => xs.length - (intOf i).toNat)
  case atStart => exact ⟨0, by omega, rfl, fun j _ h => by omega⟩
  case round =>
    obtain ⟨k, hk, rfl, hV⟩ := hrel
    have HV := hidI hV
    clear hV
    by_cases hlt : k < xs.length
    · obtain ⟨b, o, q, c, hp, e0, e1, e2, e3, _⟩ := funGet HF.out (Below.refl _ _) hlt
      subst hp
      have hbb := lt_of_cell e0
      have HE : Hid (mainB xs[k] = (xs[k].name.toList == [109, 97, 105, 110])) := rfl
      cases hm : (xs[k].name.toList == [109, 97, 105, 110])
      · have HM : Hid (mainB xs[k] = false) := HE.out.trans hm
        go_wp2
        refine ⟨⟨k + 1, by omega, by go_num, fun j hj hjk => ?_⟩, by simp [intOf]; omega⟩
        by_cases hj2 : j < k
        · exact HV.out j hj hj2
        · obtain rfl : j = k := by omega
          exact HM.out
      · have HM : Hid (mainB xs[k] = true) := HE.out.trans hm
        go_wp2
        go_ret
        refine ⟨?_, by repeat (first | with_reducible exact Below.refl _ _ | with_reducible exact HB3.out | with_reducible refine Below.drew ?_ | with_reducible refine below_drewN ?_ _ | with_reducible refine Below.setCell ?_ ?_ _ | with_reducible refine Below.alloc ?_ ?_ _ | with_reducible exact HB2.out | with_reducible exact HB1.out | with_reducible refine Below.trans ?_ (Below.mono hb3 ?_) | with_reducible refine Below.trans ?_ (Below.mono hb5 ?_) | with_reducible refine Below.trans ?_ (Below.mono hb4 ?_) | omega | (simp; omega) | simp)⟩
        rw [mainI_hit hlt HV.out HM.out]
        rfl
    · go_wp2
      go_ret
      refine ⟨?_, by repeat (first | with_reducible exact Below.refl _ _ | with_reducible exact HB3.out | with_reducible refine Below.drew ?_ | with_reducible refine below_drewN ?_ _ | with_reducible refine Below.setCell ?_ ?_ _ | with_reducible refine Below.alloc ?_ ?_ _ | with_reducible exact HB2.out | with_reducible exact HB1.out | with_reducible refine Below.trans ?_ (Below.mono hb3 ?_) | with_reducible refine Below.trans ?_ (Below.mono hb5 ?_) | with_reducible refine Below.trans ?_ (Below.mono hb4 ?_) | omega | (simp; omega) | simp)⟩
      rw [mainI_none (fun j hj => HV.out j hj (by omega))]
      rfl

/-- does an instruction call a function? -/
def callB (x : Int) (i : InsL) : Bool := i.op == 20 && i.fn == x
/-- does one function call another one? -/
def callsB (f : FunL) (x : Int) : Bool := f.blocks.any fun b => b.list.any (callB x)

set_option maxRecDepth 100000 in
set_option maxHeartbeats 1000000 in
theorem callsOne_any (xs : List FunL) (gp fp : Option Addr) (gl gc fc k : Nat) (x : Int) (w : World) (hk : k < xs.length) (_hl : xs.length ≤ 140737488355328) (hF : SliceAt w 4 (FunR w) fp xs) :
    Calls Tryd.prog 59 #[.agg #[.slice gp gl gc, .slice fp xs.length fc], .int .i64 k, .int .i64 x] w fun e w' => e = .returned (.bool (callsB xs[k] x)) ∧ Below w.heap.size w w' := by
  obtain ⟨b, o, q, c, hp, e0, e1, e2, e3, _, _, _, hbl, hbs⟩ := funGet hF (Below.refl _ _) hk
  subst hp
  have hbb := lt_of_cell e0
  have HS := hidI hbs
  clear hF hbs
  go_enter Tryd.func59, Tryd.ntmps59
  go_wp2
  go_loop [7] (fun i => ∃ m : Nat, m ≤ xs[k].blocks.length ∧ i = .int .i64 m ∧ (∀ j (h : j < xs[k].blocks.length), j < m → xs[k].blocks[j].list.any (callB x) = false)) (fun i => xs[k].blocks.length - (intOf i).toNat)
  case atStart => exact ⟨0, by omega, rfl, fun j _ h => by omega⟩
  case round =>
    obtain ⟨m, hm, rfl, hV⟩ := hrel
    have HV := hidI hV
    clear hV
    by_cases hlt : m < xs[k].blocks.length
    · obtain ⟨b3, o3, q1, c1, q2, c2, q3, c3, hp, d0, d1, d2, d3, d4, d5, _, _, _, hl2, _, _, hls, _⟩ := blkGet HS.out (Below.refl _ _) hlt
      subst hp
      have hbb3 := lt_of_cell d0
      have HL := hidI hls
      clear hls
      go_wp2
      go_loop [9] (fun i => ∃ n : Nat, n ≤ xs[k].blocks[m].list.length ∧ i = .int .i64 n ∧ (∀ j (h : j < xs[k].blocks[m].list.length), j < n → callB x xs[k].blocks[m].list[j] = false)) (fun i => xs[k].blocks[m].list.length - (intOf i).toNat)
      case atStart => exact ⟨0, by omega, rfl, fun j _ h => by omega⟩
      case round =>
        obtain ⟨n, hn, rfl, hU⟩ := hrel
        have HU := hidI hU
        clear hU
        by_cases hltn : n < xs[k].blocks[m].list.length
        · obtain ⟨b4, o4, q4, c4, hp, f0, f1, f2, f3, f4, f5, f6, f7, _⟩ := insGet HL.out (Below.refl _ _) hltn
          subst hp
          have hbb4 := lt_of_cell f0
          have HE : Hid (callB x xs[k].blocks[m].list[n] = (xs[k].blocks[m].list[n].op == 20 && xs[k].blocks[m].list[n].fn == x)) := rfl
          cases ha : (xs[k].blocks[m].list[n].op == 20)
          · have HM : Hid (callB x xs[k].blocks[m].list[n] = false) := by rw [HE.out, ha]; rfl
            go_wp2
            refine ⟨⟨n + 1, by omega, by go_num, fun j hj hjk => ?_⟩, by simp [intOf]; omega⟩
            by_cases hj2 : j < n
            · exact HU.out j hj hj2
            · obtain rfl : j = n := by omega
              exact HM.out
          · cases hc : (xs[k].blocks[m].list[n].fn == x)
            · have HM : Hid (callB x xs[k].blocks[m].list[n] = false) := by rw [HE.out, ha, hc]; rfl
              go_wp2
              refine ⟨⟨n + 1, by omega, by go_num, fun j hj hjk => ?_⟩, by simp [intOf]; omega⟩
              by_cases hj2 : j < n
              · exact HU.out j hj hj2
              · obtain rfl : j = n := by omega
                exact HM.out
            · have HM : Hid (callsB xs[k] x = true) := by
                show _ = _
                unfold callsB
                rw [List.any_eq_true]
                refine ⟨xs[k].blocks[m], List.getElem_mem hlt, ?_⟩
                rw [List.any_eq_true]
                exact ⟨_, List.getElem_mem hltn, by rw [HE.out, ha, hc]; rfl⟩
              go_wp2
              go_ret
              exact ⟨by rw [HM.out]; rfl, by repeat (first | with_reducible exact Below.refl _ _ | with_reducible exact HB3.out | with_reducible refine Below.drew ?_ | with_reducible refine below_drewN ?_ _ | with_reducible refine Below.setCell ?_ ?_ _ | with_reducible refine Below.alloc ?_ ?_ _ | with_reducible exact HB2.out | with_reducible exact HB1.out | with_reducible refine Below.trans ?_ (Below.mono hb3 ?_) | with_reducible refine Below.trans ?_ (Below.mono hb5 ?_) | with_reducible refine Below.trans ?_ (Below.mono hb4 ?_) | omega | (simp; omega) | simp)⟩
        · go_wp2
          refine ⟨⟨m + 1, by omega, by go_num, fun j hj hjk => ?_⟩, by simp [intOf]; omega⟩
          by_cases hj2 : j < m
          · exact HV.out j hj hj2
          · obtain rfl : j = m := by omega
            rw [List.any_eq_false]
            intro y hy
            obtain ⟨i, hi, rfl⟩ := List.mem_iff_getElem.1 hy
            simp [HU.out i hi (by omega)]
    · have HM : Hid (callsB xs[k] x = false) := by
        show _ = _
        unfold callsB
        rw [List.any_eq_false]
        intro y hy
        obtain ⟨i, hi, rfl⟩ := List.mem_iff_getElem.1 hy
        simp [HV.out i hi (by omega)]
      go_wp2
      go_ret
      exact ⟨by rw [HM.out]; rfl, by repeat (first | with_reducible exact Below.refl _ _ | with_reducible exact HB3.out | with_reducible refine Below.drew ?_ | with_reducible refine below_drewN ?_ _ | with_reducible refine Below.setCell ?_ ?_ _ | with_reducible refine Below.alloc ?_ ?_ _ | with_reducible exact HB2.out | with_reducible exact HB1.out | with_reducible refine Below.trans ?_ (Below.mono hb3 ?_) | with_reducible refine Below.trans ?_ (Below.mono hb5 ?_) | with_reducible refine Below.trans ?_ (Below.mono hb4 ?_) | omega | (simp; omega) | simp)⟩
end Go.Proofs.YteckkdmgkikeaaaDoor
