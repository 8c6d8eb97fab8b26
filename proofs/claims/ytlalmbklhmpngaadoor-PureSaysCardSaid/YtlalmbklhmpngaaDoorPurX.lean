/-
  The contract of turneryref5.PureOf.
-/
import Derived.Test.YtlalmbklhmpngaaDoorPurW
import Derived.WalkKit
import Derived.WalkSpells
import Derived.WalkLawsBesides
namespace Go.Proofs.YtlalmbklhmpngaaDoor
open Go.RowKit

/-- bits added up -/
def powTo (b : Nat → Bool) : Nat → Nat
  | 0 => 0
  | n + 1 => powTo b n + if b n then 2 ^ n else 0
theorem powTo_head (b : Nat → Bool) : ∀ n, powTo b (n + 1) = (b 0).toNat + 2 * powTo (fun i => b (i + 1)) n
  | 0 => by cases h : b 0 <;> simp [powTo, h]
  | n + 1 => by
    rw [powTo, powTo_head b n, powTo]
    split
    · rw [Nat.pow_succ]; omega
    · omega
theorem powTo_mask : ∀ n (b : Nat → Bool), powTo b n = maskN n b
  | 0, b => rfl
  | n + 1, b => by rw [powTo_head, maskN, powTo_mask n]
theorem powTo_lt (b : Nat → Bool) (n : Nat) : powTo b n < 2 ^ n := by rw [powTo_mask]; exact maskN_lt n b
/-- some of the first x functions that k reaches does bit -/
def hasTo (u : UniL) (k bit x : Nat) : Bool := (List.range x).any fun y => tableU u.funcs k y && ownB u y bit
theorem hasTo_succ (u : UniL) (k bit x : Nat) : hasTo u k bit (x + 1) = (hasTo u k bit x || (tableU u.funcs k x && ownB u x bit)) := by
  unfold hasTo
  rw [List.range_succ, List.any_append]
  simp

set_option maxRecDepth 100000 in
set_option maxHeartbeats 2000000 in
theorem pureOf_any (u : UniL) (gp fp : Option Addr) (gc fc : Nat) (w : World) (hgl : u.globals.length * 48 ≤ 140737488351232) (hG : SliceAt w 3 (GloR w) gp u.globals) (hF : SliceAt w 4 (FunR w) fp u.funcs) (hu : ChkOk u) :
    Calls Tryd.prog 28 #[.agg #[.slice gp u.globals.length gc, .slice fp u.funcs.length fc]] w fun e w' => (∃ p c, e = .returned (.slice p u.funcs.length c) ∧ SliceAt w' 1 IntR p (pureL u)) ∧ Below w.heap.size w w' := by
  obtain ⟨i1, k1, k2, k3, k4⟩ := info_parts infoInt7
  obtain ⟨i2, l1, l2, l3, l4⟩ := info_parts infoBools
  have HF := hidI hF
  have HG := hidI hG
  have HU := hidI hu
  have hnf := hu.nf
  clear hF hG hu
  go_enter Tryd.func28, Tryd.ntmps28
  go_wp2_with fail
  refine (table_any u.funcs _ _ _ _ _ _ hnf (funsMono HF.out (by repeat (first | with_reducible exact Below.refl _ _ | with_reducible exact HB3.out | with_reducible refine Below.drew ?_ | with_reducible refine below_drewN ?_ _ | with_reducible refine Below.setCell ?_ ?_ _ | with_reducible refine Below.alloc ?_ ?_ _ | with_reducible exact HB2.out | with_reducible exact HB1.out | with_reducible refine Below.trans ?_ (Below.mono hb3 ?_) | with_reducible refine Below.trans ?_ (Below.mono hb5 ?_) | with_reducible refine Below.trans ?_ (Below.mono hb4 ?_) | omega | (simp; omega) | simp)))).mono ?_
  rintro e w1 ⟨⟨p, c, g, rfl, hT⟩, hb1⟩
  have HT := hidI hT
  have HB1 : Hid (Below w.heap.size w w1) := Below.trans (by repeat (first | with_reducible exact Below.refl _ _ | with_reducible exact HB3.out | with_reducible refine Below.drew ?_ | with_reducible refine below_drewN ?_ _ | with_reducible refine Below.setCell ?_ ?_ _ | with_reducible refine Below.alloc ?_ ?_ _ | with_reducible exact HB2.out | with_reducible exact HB1.out | with_reducible refine Below.trans ?_ (Below.mono hb3 ?_) | with_reducible refine Below.trans ?_ (Below.mono hb5 ?_) | with_reducible refine Below.trans ?_ (Below.mono hb4 ?_) | omega | (simp; omega) | simp)) (hb1.mono (by simp))
  have HUb := hidI (heap_below hb1 (k := w.heap.size) (by simp) (heap_here w _))
  clear hT hb1
  go_wp2_with fail
  go_loopw [4, 5] (fun v i wr => ∃ (k : Nat) (go : Nat → Nat), k ≤ u.funcs.length ∧ i = .int .i64 k ∧ TabW wr w1.heap.size 50 4 v 7 k go (fun j y => ownB u j y) ∧ Below w1.heap.size w1 wr) (fun _ i _ => u.funcs.length - (intOf i).toNat)
  case atStart => exact ⟨0, fun _ => 0, by omega, rfl, TabW.nil _ _ _ _ _ _ _, Below.refl _ _⟩
  case round =>
    obtain ⟨k, go, hk, rfl, hR, hb⟩ := hrel
    obtain ⟨q, d, hq⟩ := own_slice hR.own
    subst hq
    have HR := hidI hR
    have HB := hidI hb
    have hbw : Below w.heap.size w wr := HB1.out.trans (hb.mono HB1.out.size)
    have HBw := hidI hbw
    have hs1 := hb.size
    have hub := (hb.block w.heap.size (Array.getElem?_eq_some_iff.1 HUb.out).1).trans HUb.out
    obtain ⟨hcu, _⟩ := blk hub
    have u0 := hcu 0
    have u1 := hcu 1
    have zu := (Array.getElem?_eq_some_iff.1 hub).1
    clear hR hb hbw hub hcu
    by_cases hlt : k < u.funcs.length
    · go_wp2_with fail
      refine (pureOwn_any u gp fp gc fc k _ hgl (glosMono HG.out HBw.out) (funsMono HF.out HBw.out) HU.out hlt).mono ?_
      rintro e w2 ⟨r, rfl, hb2, hr, hrow⟩
      have HB2 := hidI hb2
      have HRow := hidI hrow
      have HR2 := hidI (HR.out.below hb2)
      have hro := hidI HR2.out.own
      have hs2 := hb2.size
      clear hb2 hrow
      go_wp2_with (at_builtin; refine wpList_append_own_at _ rfl _ _ 99 rfl w1.heap.size 50 i2 (.slice none 0 0) 1 24 underTab l1 l2 l3 l4 rfl (by decide) _ _ _ rfl (hro.out.alloc _) ⟨w2.heap.size, 0, none⟩ 1 1 [.slice (some ⟨r, 0, none⟩) 7 7] rfl rfl (cell_one_at _ _ _ _ rfl) (by simp [Value.oneCell']) (by unfold maxLen; omega) (by omega) ?_ ?_)
      · simp; omega
      intro v' w3 hown' hgrow _ hat
      have HS : Hid (TabW w3 w1.heap.size 50 4 v' 7 (k + 1) (fun j => if j = k then r else go j) (fun j y => ownB u j y)) := by
        refine (HR2.out.below ((Below.refl _ _).alloc (Nat.le_refl _) (.cells #[.slice (some ⟨r, 0, none⟩) 7 7] 50))).snoc (r := r) ?_ (by omega) (fun e => ?_) (fun j hj e => ?_) hown' hgrow (by simpa using hat)
        · exact HRow.out.alloc _
        · have := (HR.out.own.lt _ e).2
          omega
        · have := (HR.out.row j hj).lt
          omega
      obtain ⟨g', cap', rfl⟩ := ownsRow_succ' hown'
      have HB3 : Hid (Below w1.heap.size w1 w3) := by
        refine ((HB.out.trans (HB2.out.mono hs1)).alloc (by omega) _).grown hgrow (by simp; omega) (fun kk e => ?_)
        exact (HR.out.own.lt kk e).1
      clear hown' hgrow hat
      go_wp2_with fail
      exact ⟨⟨k + 1, _, by omega, by go_num, HS.out, HB3.out⟩, by simp [intOf]; omega⟩
    · obtain rfl : k = u.funcs.length := by omega
      obtain ⟨wo, hwo⟩ : ∃ wo : World, wo = wr := ⟨_, rfl⟩
      subst hwo
      have HTo := hidI (HT.out.below HB.out)
      go_wp2_with fail
      go_loopw [6, 7] (fun v i wq => ∃ k : Nat, k ≤ u.funcs.length ∧ i = .int .i64 k ∧ wq.ownsRow wo.heap.size 3 1 v k (((List.range k).map fun j => maskI (maskB u j)).map (.int .i64)) ∧ Below wo.heap.size wo wq) (fun _ i _ => u.funcs.length - (intOf i).toNat)
      case atStart => exact ⟨0, by omega, rfl, World.ownsRow_nil _ _ _ _, Below.refl _ _⟩
      case round =>
        obtain ⟨k, hk, rfl, hown, hbq⟩ := hrel
        obtain ⟨s, f, hs⟩ := own_slice hown
        subst hs
        have HO := hidI hown
        have HBq := hidI hbq
        have hsq := hbq.size
        have HTq := hidI (HTo.out.below hbq)
        have HRq := hidI (HR.out.below hbq)
        clear hown hbq
        by_cases hlt : k < u.funcs.length
        · go_wp2_with fail
          go_loop [8, 9, 10] (fun a b i => ∃ bit P : Nat, bit ≤ 7 ∧ i = .int .i64 bit ∧ a = .int .i64 (powTo (maskB u k) bit : Nat) ∧ b = .int .i64 P ∧ P = 2 ^ bit) (fun _ _ i => 7 - (intOf i).toNat)
          case atStart => exact ⟨0, 1, by omega, rfl, rfl, rfl, rfl⟩
          case round =>
            obtain ⟨bit, P, hbit, rfl, rfl, rfl, hP⟩ := hrel
            have hlow := powTo_lt (maskB u k) bit
            rw [← hP] at hlow
            have hP2 : P ≤ 128 := by rw [hP]; exact Nat.pow_le_pow_right (by omega) hbit
            have HP := hidI hP
            have HSu : Hid (powTo (maskB u k) (bit + 1) = powTo (maskB u k) bit + if maskB u k bit then P else 0) := hidI (by rw [hP]; rfl)
            clear hP
            generalize hsm : powTo (maskB u k) bit = sm at *
            have HSm := hidI hsm
            clear hsm
            by_cases hb7 : bit < 7
            · go_wp2_with fail
              go_loop [11, 12] (fun h i => ∃ x : Nat, x ≤ u.funcs.length ∧ i = .int .i64 x ∧ h = .bool (hasTo u k bit x)) (fun _ i => u.funcs.length - (intOf i).toNat)
              case atStart => exact ⟨0, by omega, rfl, rfl⟩
              case round =>
                obtain ⟨x, hx, rfl, rfl⟩ := hrel
                have HHs := hidI (hasTo_succ u k bit x)
                by_cases hxt : x < u.funcs.length
                · obtain ⟨qt, hqt, ct⟩ := HTq.out.cell hlt
                  obtain ⟨bt, _⟩ := HTq.out.bit hlt hxt
                  obtain ⟨qo, hqo, co⟩ := HRq.out.cell hxt
                  obtain ⟨bo, _⟩ := HRq.out.bit hxt hb7
                  subst hqt hqo
                  have kx0 : (0 : Int) ≤ (x : Int) := by omega
                  have kx1 : (x : Int) < u.funcs.length := by omega
                  have kk0 : (0 : Int) ≤ (k : Int) := by omega
                  have kk1 : (k : Int) < u.funcs.length := by omega
                  cases hh : hasTo u k bit x with
                  | true =>
                    have HH := hidI hh
                    clear hh ct bt co bo
                    go_wp2_with fail
                    exact ⟨⟨x + 1, by omega, by go_num, by rw [HHs.out, HH.out]; rfl⟩, by simp [intOf]; omega⟩
                  | false =>
                    cases ht : tableU u.funcs k x with
                    | false =>
                      rw [ht] at bt
                      have HH := hidI hh
                      have HTt := hidI ht
                      clear hh ht co bo
                      go_wp2_with fail
                      exact ⟨⟨x + 1, by omega, by go_num, by rw [HHs.out, HH.out, HTt.out]; rfl⟩, by simp [intOf]; omega⟩
                    | true =>
                      rw [ht] at bt
                      have HH := hidI hh
                      have HTt := hidI ht
                      clear hh ht
                      go_wp2_with fail
                      exact ⟨⟨x + 1, by omega, by go_num, by rw [HHs.out, HH.out, HTt.out]; rfl⟩, by simp [intOf]; omega⟩
                · obtain rfl : x = u.funcs.length := by omega
                  have HM : Hid (hasTo u k bit u.funcs.length = maskB u k bit) := hidI rfl
                  cases hh : hasTo u k bit u.funcs.length with
                  | true =>
                    have HH : Hid (maskB u k bit = true) := hidI (HM.out.symm.trans hh)
                    clear hh
                    go_wp2_with fail
                    refine ⟨⟨bit + 1, 2 * P, by omega, by go_num, ?_, by go_num, by rw [HP.out, Nat.pow_succ]; omega⟩, by simp [intOf]; omega⟩
                    rw [HSu.out, HH.out, if_pos rfl]
                    go_num
                  | false =>
                    have HH : Hid (maskB u k bit = false) := hidI (HM.out.symm.trans hh)
                    clear hh
                    go_wp2_with fail
                    refine ⟨⟨bit + 1, 2 * P, by omega, by go_num, ?_, by go_num, by rw [HP.out, Nat.pow_succ]; omega⟩, by simp [intOf]; omega⟩
                    rw [HSu.out, HH.out, if_neg (by simp)]
                    go_num
            · obtain rfl : bit = 7 := by omega
              have HQ : Hid (((sm : Nat) : Int) = maskI (maskB u k)) := by
                refine hidI ?_
                rw [← HSm.out, powTo_mask]
                rfl
              go_wp2_with (at_builtin; refine wpList_append_own_at _ rfl _ _ 38 rfl wo.heap.size 3 i1 (.int .i64 0) 1 8 underInts7 k1 k2 k3 k4 rfl (by decide) _ _ _ rfl (HO.out.alloc _) ⟨wr.heap.size, 0, none⟩ 1 1 [.int .i64 sm] rfl rfl (cell_one_at _ _ _ _ rfl) (by simp [Value.oneCell']) (by unfold maxLen; omega) (by omega) (by simp; omega) ?_)
              intro v' w6 hown' hgrow _ _
              obtain ⟨g', cap', rfl⟩ := ownsRow_succ' hown'
              have HB6 : Hid (Below wo.heap.size wo w6) := (HBq.out.alloc hsq _).grown hgrow (by simp; omega) (fun kk e => (HO.out.lt kk e).1)
              have HO7 : Hid (w6.ownsRow wo.heap.size 3 1 (.slice (some ⟨g', 0, none⟩) (k + 1) cap') (k + 1) (((List.range (k + 1)).map fun j => maskI (maskB u j)).map (.int .i64))) := by
                show World.ownsRow _ _ _ _ _ _ _
                rw [List.range_succ, List.map_append, List.map_append, List.map_singleton, List.map_singleton, ← HQ.out, List.map_map]
                exact hown'
              clear hown' hgrow
              go_wp2_with fail
              exact ⟨⟨k + 1, by omega, by go_num, HO7.out, HB6.out⟩, by simp [intOf]; omega⟩
        · obtain rfl : k = u.funcs.length := by omega
          go_wp2_with fail
          go_ret
          obtain ⟨p', c', e, hs⟩ := own_ints (xs := pureL u) (pureL_len u) HO.out (fun y hy => by
            unfold pureL at hy
            obtain ⟨j, _, rfl⟩ := List.mem_map.1 hy
            have := maskI_lt (maskB u j)
            unfold I64
            omega)
          simp only [Value.slice.injEq] at e
          obtain ⟨rfl, _, _⟩ := e
          exact ⟨⟨_, _, rfl, hs⟩, HBw.out.trans (HBq.out.mono (by omega))⟩
end Go.Proofs.YtlalmbklhmpngaaDoor
