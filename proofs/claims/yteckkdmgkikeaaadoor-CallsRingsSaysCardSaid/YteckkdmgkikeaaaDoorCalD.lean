/-
  The contract of turneryref5.CallsGraph.
-/
import Derived.Test.YteckkdmgkikeaaaDoorCalB
import Derived.Test.YteckkdmgkikeaaaDoorCalC
import Derived.WalkKit
import Derived.WalkSpells
import Derived.WalkLawsBesides
namespace Go.Proofs.YteckkdmgkikeaaaDoor
open Go.RowKit

/-- of the first n functions those that one calls -/
def rowTo (f : FunL) (n : Nat) : List Int := ((List.range n).filter fun x : Nat => callsB f (x : Int)).map fun (x : Nat) => (x : Int)
theorem rowTo_yes {f : FunL} {n : Nat} (h : callsB f (n : Int) = true) : rowTo f (n + 1) = rowTo f n ++ [(n : Int)] := by
  simp [rowTo, List.range_succ, List.filter_append, h]
theorem rowTo_no {f : FunL} {n : Nat} (h : callsB f (n : Int) = false) : rowTo f (n + 1) = rowTo f n := by
  simp [rowTo, List.range_succ, List.filter_append, h]
theorem rowTo_le (f : FunL) (n : Nat) : (rowTo f n).length ≤ n := by
  unfold rowTo
  rw [List.length_map]
  have := List.length_filter_le (fun x : Nat => callsB f (x : Int)) (List.range n)
  rwa [List.length_range] at this
theorem rowTo_mem {f : FunL} {n : Nat} {y : Int} (h : y ∈ rowTo f n) : 0 ≤ y ∧ y < n := by
  unfold rowTo at h
  obtain ⟨x, hx, rfl⟩ := List.mem_map.1 h
  have := List.mem_range.1 (List.mem_filter.1 hx).1
  omega
/-- of each of the first k functions those that it calls, rising -/
def graphTo (xs : List FunL) (k : Nat) : List (List Int) := (xs.take k).map fun f => rowTo f xs.length
theorem graphTo_succ {xs : List FunL} {k : Nat} (hk : k < xs.length) : graphTo xs (k + 1) = graphTo xs k ++ [rowTo xs[k] xs.length] := by
  unfold graphTo
  rw [List.take_succ_eq_append_getElem hk, List.map_append]
  rfl
theorem graphTo_len {xs : List FunL} {k : Nat} (hk : k ≤ xs.length) : (graphTo xs k).length = k := by
  simp [graphTo]; omega

theorem infoRows : (Tryd.prog.info? 39).map (fun i => (i.zero, i.size, i.bytes)) = some (some (.slice none 0 0), 1, 24) := by kernel_rfl
theorem underInts2 : Tryd.prog.underlying 39 = some (.slice 3) := by kernel_rfl
theorem underRows2 : Tryd.prog.underlying 59 = some (.slice 39) := by kernel_rfl
theorem infoInt2 : (Tryd.prog.info? 3).map (fun i => (i.zero, i.size, i.bytes)) = some (some (.int .i64 0), 1, 8) := by kernel_rfl

set_option maxRecDepth 100000 in
set_option maxHeartbeats 1000000 in
theorem refGraph_any (xs : List FunL) (gp fp : Option Addr) (gl gc fc : Nat) (w : World) (hl : xs.length ≤ 10) (hF : SliceAt w 4 (FunR w) fp xs) :
    Calls Tryd.prog 25 #[.agg #[.slice gp gl gc, .slice fp xs.length fc]] w fun e w' => (∃ p c, e = .returned (.slice p xs.length c) ∧ SliceAt w' 1 (IntsR w') p (graphTo xs xs.length)) ∧ Below w.heap.size w w' := by
  obtain ⟨i1, k1, k2, k3, k4⟩ := info_parts infoInt2
  obtain ⟨i2, l1, l2, l3, l4⟩ := info_parts infoRows
  have HF := hidI hF
  clear hF
  go_enter Tryd.func25, Tryd.ntmps25
  go_wp2
  go_loopw [3, 4] (fun v i wr => ∃ (k : Nat) (vals : List Value), k ≤ xs.length ∧ i = .int .i64 k ∧ RowsB wr (w.heap.size + 1) 39 3 v (graphTo xs k) vals ∧ Below (w.heap.size + 1) (w.alloc (.cells #[.slice gp gl gc, .slice fp xs.length fc] 25)) wr) (fun _ i _ => xs.length - (intOf i).toNat)
  case atStart => exact ⟨0, [], by omega, rfl, RowsB.nil _ _ _ _, Below.refl _ _⟩
  case round =>
    obtain ⟨k, vals, hk, rfl, hR, hb⟩ := hrel
    obtain ⟨wo, hwo⟩ : ∃ wo : World, wo = wr := ⟨_, rfl⟩
    have hlen := graphTo_len hk
    obtain ⟨p, c, hv⟩ := own_slice hR.own
    rw [hlen] at hv
    subst hv
    have HR := hidI hR
    have HB := hidI hb
    have HBx : Hid (Below w.heap.size w wr) := ((Below.refl _ _).alloc (Nat.le_refl _) _).trans (hb.mono (by omega))
    have hz : w.heap.size < wr.heap.size := by have := hb.size; simp at this; omega
    have hA := heap_below hb (by omega) (heap_here w _)
    have HA := hidI hA
    obtain ⟨hcc, hcf⟩ := blk hA
    clear hR hb hA
    by_cases hlt : k < xs.length
    · go_wp2
      subst hwo
      clear hcc hcf
      have HLn := hidI hlen
      clear hlen
      go_loopw [5, 6] (fun r i wq => ∃ n : Nat, n ≤ xs.length ∧ i = .int .i64 n ∧ wq.ownsRow wo.heap.size 3 1 r (rowTo xs[k] n).length ((rowTo xs[k] n).map (.int .i64)) ∧ Below wo.heap.size wo wq) (fun _ i _ => xs.length - (intOf i).toNat)
      case atStart => exact ⟨0, by omega, rfl, by have := World.ownsRow_nil wo wo.heap.size 3 1; simpa [rowTo] using this, Below.refl _ _⟩
      case round =>
        obtain ⟨n, hn, rfl, hown, hb⟩ := hrel
        obtain ⟨q, d, hq⟩ := own_slice hown
        subst hq
        have HO := hidI hown
        have HBn := hidI hb
        have hzn : wo.heap.size ≤ wr.heap.size := hb.size
        have hz2 : w.heap.size < wr.heap.size := by omega
        obtain ⟨hcc, hcf⟩ := blk (heap_below hb hz HA.out)
        have hrl := rowTo_le xs[k] n
        clear hown hb
        by_cases hlt2 : n < xs.length
        · go_wp2_with fail
          refine (callsOne_any xs _ _ _ _ _ k _ _ hlt (by omega) (funsMono HF.out (HBx.out.trans (HBn.out.mono (by omega))))).mono ?_
          rintro e w2 ⟨rfl, hb2⟩
          have HB2 := hidI hb2
          have HO2 := hidI (ownsRow_below' HO.out hb2)
          have hz3 : wr.heap.size ≤ w2.heap.size := hb2.size
          clear hb2
          cases hcb : callsB xs[k] (n : Int)
          · have HCB := hidI hcb
            clear hcb
            go_wp2_with fail
            refine ⟨⟨n + 1, by omega, by go_num, ?_, HBn.out.trans (HB2.out.mono hzn)⟩, by simp [intOf]; omega⟩
            rw [rowTo_no HCB.out]
            exact HO2.out
          · have HCB := hidI hcb
            clear hcb
            generalize hm : (rowTo xs[k] n).length = m at *
            have HM := hidI hm
            clear hm
            go_wp2_with (at_builtin; refine wpList_append_own_at _ rfl _ _ 39 rfl wo.heap.size 3 i1 (.int .i64 0) 1 8 underInts2 k1 k2 k3 k4 rfl (by decide) _ _ _ rfl (HO2.out.alloc _) ⟨w2.heap.size, 0, none⟩ 1 1 [.int .i64 n] rfl rfl (cell_one_at _ _ _ _ rfl) (by simp [Value.oneCell']) (by unfold maxLen; omega) (by omega) ?_ ?_)
            · simp; omega
            intro v' w1 hown' hgrow _ _
            obtain ⟨g', cap', rfl⟩ := ownsRow_succ' hown'
            have HO3 : Hid (w1.ownsRow wo.heap.size 3 1 (.slice (some ⟨g', 0, none⟩) (m + 1) cap') (rowTo xs[k] (n + 1)).length ((rowTo xs[k] (n + 1)).map (.int .i64))) := by
              show World.ownsRow _ _ _ _ _ _ _
              rw [rowTo_yes HCB.out, List.map_append, List.length_append, HM.out]
              exact hown'
            have HB3 : Hid (Below wo.heap.size wo w1) := by
              refine ((HBn.out.trans (HB2.out.mono hzn)).alloc (by omega) _).grown hgrow (by simp; omega) (fun kk e => ?_)
              exact (HO2.out.lt kk e).1
            clear hown' hgrow
            go_wp2_with fail
            exact ⟨⟨n + 1, by omega, by go_num, HO3.out, HB3.out⟩, by simp [intOf]; omega⟩
        · obtain rfl : n = xs.length := by omega
          have HR2 := hidI (HR.out.below HBn.out)
          have hro := HR2.out.own
          rw [HLn.out] at hro
          have HRO := hidI hro
          have hd : (Value.slice q (rowTo xs[k] xs.length).length d).ownBlock = none ∨ (Value.slice q (rowTo xs[k] xs.length).length d).ownBlock ≠ (Value.slice p k c).ownBlock := by
            cases hq : (Value.slice q (rowTo xs[k] xs.length).length d).ownBlock with
            | none => exact .inl rfl
            | some g =>
              right
              intro he
              have h1 := (HO.out.lt g hq).1
              have h2 := (HR.out.own.lt g he.symm).2
              omega
          have HD := hidI hd
          clear hro hd
          generalize hm : (rowTo xs[k] xs.length).length = m at *
          have HM := hidI hm
          clear hm
          go_wp2_with (at_builtin; refine wpList_append_own_at _ rfl _ _ 59 rfl (w.heap.size + 1) 39 i2 (.slice none 0 0) 1 24 underRows2 l1 l2 l3 l4 rfl (by decide) _ _ _ rfl (HRO.out.alloc _) ⟨wr.heap.size, 0, none⟩ 1 1 [.slice q m d] rfl rfl (cell_one_at _ _ _ _ rfl) (by simp [Value.oneCell']) (by unfold maxLen; omega) (by omega) ?_ ?_)
          · simp; omega
          intro v' w1 hown' hgrow _ hat
          have HS : Hid (RowsB w1 (w.heap.size + 1) 39 3 v' (graphTo xs (k + 1)) (vals ++ [.slice q m d])) := by
            show RowsB _ _ _ _ _ _ _
            rw [graphTo_succ hlt]
            refine (HR2.out.below ((Below.refl _ _).alloc (Nat.le_refl _) (.cells #[.slice q m d] 39))).snoc (by rw [HM.out]; exact ownsRow_base (HO.out.alloc _) (by omega)) HD.out (by rw [HLn.out]; exact hown') hgrow (by simpa using hat)
          obtain ⟨g', cap', rfl⟩ := ownsRow_succ' hown'
          have HB3 : Hid (Below (w.heap.size + 1) (w.alloc (.cells #[.slice gp gl gc, .slice fp xs.length fc] 25)) w1) := by
            refine ((HB.out.trans (HBn.out.mono (by omega))).alloc (by omega) _).grown hgrow (by simp; omega) (fun kk e => ?_)
            exact (HR.out.own.lt kk e).1
          clear hown' hgrow hat
          go_wp2_with fail
          exact ⟨⟨k + 1, _, by omega, by go_num, HS.out, HB3.out⟩, by simp [intOf]; omega⟩
    · go_wp2
      go_ret
      obtain rfl : k = xs.length := by omega
      obtain ⟨p2, c2, h1, h2⟩ := HR.out.reads (fun r hr => by
        unfold graphTo at hr
        obtain ⟨f, _, rfl⟩ := List.mem_map.1 hr
        refine ⟨by have := rowTo_le f xs.length; omega, fun x hx => ?_⟩
        have := rowTo_mem hx
        unfold I64
        omega)
      refine ⟨⟨p, c, rfl, ?_⟩, HBx.out⟩
      rw [hlen] at h1
      cases h1
      exact h2
end Go.Proofs.YteckkdmgkikeaaaDoor
