/-
  The contract of turneryref5.PureRound: turn by turn.
-/
import Derived.Test.YtlalmbklhmpngaaDoorPurH
import Derived.Test.YtlalmbklhmpngaaDoorBCalO
import Derived.WalkKit
import Derived.WalkSpells
import Derived.WalkLawsBesides
namespace Go.Proofs.YtlalmbklhmpngaaDoor
open Go.RowKit

set_option maxRecDepth 100000 in
set_option maxHeartbeats 1000000 in
theorem pureRound_any (f : FunL) (bp : Option Addr) (bc : Nat) (w : World) (hn : f.blocks.length ≤ 1000) (hB : SliceAt w 6 (BlkR w) bp f.blocks) (hT : ∀ k (h : k < f.blocks.length), ∀ t ∈ f.blocks[k].fin.to, 0 ≤ t ∧ t < (f.blocks.length : Int)) :
    Calls Tryd.prog 93 #[.agg #[.string f.name, .int .i64 f.params, .int .i64 f.regs, .slice bp f.blocks.length bc]] w fun e w' => e = .returned (.bool (roundB f)) ∧ Below w.heap.size w w' := by
  obtain ⟨i1, k1, k2, k3, k4⟩ := info_parts infoBool
  have hmk := run_make_row 50 4 i1 (.bool false) underBools k1 k2 k3 rfl .i64 .i64 f.blocks.length (by rw [k4]; omega) (by omega)
  have HB := hidI hB
  have HT := hidI hT
  clear hB hT
  go_enter Tryd.func93, Tryd.ntmps93
  go_wp2_with fail
  go_loopw [4] (fun i wr => ∃ a : Nat, a ≤ f.blocks.length ∧ i = .int .i64 a ∧ Below w.heap.size w wr ∧ wr.cell? ⟨w.heap.size, 3, none⟩ = some (.slice bp f.blocks.length bc) ∧ ∀ x, x < a → plusB f x x = false) (fun i _ => f.blocks.length - (intOf i).toNat)
  case atStart => exact ⟨0, by omega, rfl, by repeat (first | with_reducible exact Below.refl _ _ | with_reducible exact HB3.out | with_reducible refine Below.drew ?_ | with_reducible refine below_drewN ?_ _ | with_reducible refine Below.setCell ?_ ?_ _ | with_reducible refine Below.alloc ?_ ?_ _ | with_reducible exact HB2.out | with_reducible exact HB1.out | with_reducible refine Below.trans ?_ (Below.mono hb3 ?_) | with_reducible refine Below.trans ?_ (Below.mono hb5 ?_) | with_reducible refine Below.trans ?_ (Below.mono hb4 ?_) | omega | (simp; omega) | simp), (blk (heap_here w _)).1 3, fun _ h => by omega⟩
  case round =>
    obtain ⟨a, ha, rfl, hb, cG, hno⟩ := hrel
    obtain ⟨wo, hwo⟩ : ∃ wo : World, wo = wr := ⟨_, rfl⟩
    have zG := lt_of_cell cG
    have HBr := hidI hb
    have HNo := hidI hno
    clear hb hno
    by_cases hlt : a < f.blocks.length
    · go_wp2_with fail
      subst hwo
      go_loopw [6] (fun i wq => ∃ (m : Nat) (had : Nat → Bool), m ≤ f.blocks.length ∧ i = .int .i64 m ∧ wq.rowIs wo.heap.size 4 f.blocks.length (fun y => .bool (had y)) ∧ Below wo.heap.size wo wq ∧ TurnI f a m had) (fun i _ => f.blocks.length - (intOf i).toNat)
      case atStart => exact ⟨0, fun _ => false, by omega, rfl, World.rowIs_made wo (.bool false) f.blocks.length 4, by repeat (first | with_reducible exact Below.refl _ _ | with_reducible exact HB3.out | with_reducible refine Below.drew ?_ | with_reducible refine below_drewN ?_ _ | with_reducible refine Below.setCell ?_ ?_ _ | with_reducible refine Below.alloc ?_ ?_ _ | with_reducible exact HB2.out | with_reducible exact HB1.out | with_reducible refine Below.trans ?_ (Below.mono hb3 ?_) | with_reducible refine Below.trans ?_ (Below.mono hb5 ?_) | with_reducible refine Below.trans ?_ (Below.mono hb4 ?_) | omega | (simp; omega) | simp), TurnI.start⟩
      case round =>
        obtain ⟨m, had, hm, rfl, hR, hb2, hI⟩ := hrel
        have HR := hidI hR
        have HB2 := hidI hb2
        have HI := hidI hI
        have hzn : wo.heap.size < wr.heap.size := hR.lt
        clear hR hb2 hI
        by_cases hlt2 : m < f.blocks.length
        · go_wp2_with fail
          go_loopw [7] (fun i wq => ∃ (k : Nat) (h2 : Nat → Bool), k ≤ f.blocks.length ∧ i = .int .i64 k ∧ wq.rowIs wo.heap.size 4 f.blocks.length (fun y => .bool (h2 y)) ∧ Below wo.heap.size wo wq ∧ TurnB f a k had h2) (fun i _ => f.blocks.length - (intOf i).toNat)
          case atStart => exact ⟨0, had, by omega, rfl, HR.out, HB2.out, TurnB.start HI.out⟩
          case round =>
            clear HR HB2 hzn
            obtain ⟨k, h2, hk, rfl, hR, hb2, hTB⟩ := hrel
            have hzn : wo.heap.size < wr.heap.size := hR.lt
            have HTB := hidI hTB
            have HB2 := hidI hb2
            have HR := hidI hR
            have hcG := (hb2.cell (p := ⟨w.heap.size, 3, none⟩) zG).trans cG
            by_cases hkt : k < f.blocks.length
            · have hc := hR.cell hkt
              obtain ⟨bb, bo, pp, pc, lp, lc, tp, tc, hbp, b0, b1, b2, b3, b4, b5, _, _, _, hll, htl, _, hLi, hTo⟩ := blkGet HB.out (Below.refl _ _) hkt
              subst hbp
              have hbb := lt_of_cell b5
              have e5 := ((HBr.out.trans (hb2.mono HBr.out.size)).cell (p := ⟨bb, _, none⟩) hbb).trans b5
              have HTo := hidI hTo
              have B5 := hidI b5
              clear hR hb2 hTB b0 b1 b2 b3 b4 b5 hLi hTo
              by_cases hka : k = a
              · have hbq : ((k : Int) != (a : Int)) = false := by simp [hka]
                have HC : Hid (k = a ∨ h2 k = true) := .inl hka
                clear hka
                go_wp2_with fail
                go_loopw [8] (fun i wq => ∃ (j : Nat) (h3 : Nat → Bool), j ≤ f.blocks[k].fin.to.length ∧ i = .int .i64 j ∧ wq.rowIs wo.heap.size 4 f.blocks.length (fun y => .bool (h3 y)) ∧ Below wo.heap.size wo wq ∧ TurnW f a k f.blocks[k].fin.to j had h3 ∧ (k = a ∨ h3 k = true)) (fun i _ => f.blocks[k].fin.to.length - (intOf i).toNat)
                case atStart => exact ⟨0, h2, by omega, rfl, HR.out, HB2.out, TurnW.start HTB.out, HC.out⟩
                case round =>
                  clear HR HB2 HTB HC hc hzn hcG e5
                  obtain ⟨j, h3, hj, rfl, hR, hb2, hTW, hC⟩ := hrel
                  have hzn : wo.heap.size < wr.heap.size := hR.lt
                  have hcG := (hb2.cell (p := ⟨w.heap.size, 3, none⟩) zG).trans cG
                  have HBN : Hid (Below w.heap.size w wr) := HBr.out.trans (hb2.mono HBr.out.size)
                  have e5 := (HBN.out.cell (p := ⟨bb, _, none⟩) hbb).trans B5.out
                  have HTW := hidI hTW
                  have HC := hidI hC
                  have HB2 := hidI hb2
                  have HR := hidI hR
                  clear hb2 hTW hC
                  by_cases hjt : j < f.blocks[k].fin.to.length
                  · obtain ⟨b4, o4, hp4, f0, hi⟩ := intGet HTo.out HBN.out hjt
                    subst hp4
                    obtain ⟨hx0, hx1⟩ := HT.out k hkt _ (List.getElem_mem hjt)
                    obtain ⟨y, hy⟩ : ∃ y : Nat, f.blocks[k].fin.to[j] = (y : Int) := ⟨f.blocks[k].fin.to[j].toNat, by omega⟩
                    rw [hy] at f0 hx1
                    have hyn : y < f.blocks.length := by omega
                    have hc := hR.cell hyn
                    have hf := hR.frozen y
                    have HY := hidI hy
                    clear hR hy
                    go_wp2_with fail
                    refine ⟨⟨j + 1, setB h3 y, by omega, by go_num, (HR.out.set y (.bool true)).congr (fun x _ => ?_), HB2.out.setCell (Nat.le_refl _) _, HTW.out.succ hkt hjt HC.out hyn HY.out, ?_⟩, by simp [intOf]; omega⟩
                    · unfold setB
                      split <;> rfl
                    · rcases HC.out with e | e
                      · exact .inl e
                      · refine .inr ?_
                        unfold setB
                        split
                        · rfl
                        · exact e
                  · obtain rfl : j = f.blocks[k].fin.to.length := by omega
                    clear hR
                    go_wp2_with fail
                    exact ⟨⟨k + 1, h3, by omega, by go_num, HR.out, HB2.out, TurnW.fin hkt HTW.out⟩, by simp [intOf]; omega⟩
              · have hbq : ((k : Int) != (a : Int)) = true := by simp; omega
                have HK := hidI hka
                clear hka
                cases hv : h2 k with
                | false =>
                  rw [hv] at hc
                  have HV := hidI hv
                  clear hv
                  go_wp2_with fail
                  exact ⟨⟨k + 1, h2, by omega, by go_num, HR.out, HB2.out, HTB.out.skip HK.out HV.out⟩, by simp [intOf]; omega⟩
                | true =>
                  rw [hv] at hc
                  have HC : Hid (k = a ∨ h2 k = true) := .inr hv
                  clear hv HK
                  go_wp2_with fail
                  go_loopw [8] (fun i wq => ∃ (j : Nat) (h3 : Nat → Bool), j ≤ f.blocks[k].fin.to.length ∧ i = .int .i64 j ∧ wq.rowIs wo.heap.size 4 f.blocks.length (fun y => .bool (h3 y)) ∧ Below wo.heap.size wo wq ∧ TurnW f a k f.blocks[k].fin.to j had h3 ∧ (k = a ∨ h3 k = true)) (fun i _ => f.blocks[k].fin.to.length - (intOf i).toNat)
                  case atStart => exact ⟨0, h2, by omega, rfl, HR.out, HB2.out, TurnW.start HTB.out, HC.out⟩
                  case round =>
                    clear HR HB2 HTB HC hc hzn hcG e5
                    obtain ⟨j, h3, hj, rfl, hR, hb2, hTW, hC⟩ := hrel
                    have hzn : wo.heap.size < wr.heap.size := hR.lt
                    have hcG := (hb2.cell (p := ⟨w.heap.size, 3, none⟩) zG).trans cG
                    have HBN : Hid (Below w.heap.size w wr) := HBr.out.trans (hb2.mono HBr.out.size)
                    have e5 := (HBN.out.cell (p := ⟨bb, _, none⟩) hbb).trans B5.out
                    have HTW := hidI hTW
                    have HC := hidI hC
                    have HB2 := hidI hb2
                    have HR := hidI hR
                    clear hb2 hTW hC
                    by_cases hjt : j < f.blocks[k].fin.to.length
                    · obtain ⟨b4, o4, hp4, f0, hi⟩ := intGet HTo.out HBN.out hjt
                      subst hp4
                      obtain ⟨hx0, hx1⟩ := HT.out k hkt _ (List.getElem_mem hjt)
                      obtain ⟨y, hy⟩ : ∃ y : Nat, f.blocks[k].fin.to[j] = (y : Int) := ⟨f.blocks[k].fin.to[j].toNat, by omega⟩
                      rw [hy] at f0 hx1
                      have hyn : y < f.blocks.length := by omega
                      have hc := hR.cell hyn
                      have hf := hR.frozen y
                      have HY := hidI hy
                      clear hR hy
                      go_wp2_with fail
                      refine ⟨⟨j + 1, setB h3 y, by omega, by go_num, (HR.out.set y (.bool true)).congr (fun x _ => ?_), HB2.out.setCell (Nat.le_refl _) _, HTW.out.succ hkt hjt HC.out hyn HY.out, ?_⟩, by simp [intOf]; omega⟩
                      · unfold setB
                        split <;> rfl
                      · rcases HC.out with e | e
                        · exact .inl e
                        · refine .inr ?_
                          unfold setB
                          split
                          · rfl
                          · exact e
                    · obtain rfl : j = f.blocks[k].fin.to.length := by omega
                      clear hR
                      go_wp2_with fail
                      exact ⟨⟨k + 1, h3, by omega, by go_num, HR.out, HB2.out, TurnW.fin hkt HTW.out⟩, by simp [intOf]; omega⟩
            · obtain rfl : k = f.blocks.length := by omega
              clear hR hb2 hTB
              go_wp2_with fail
              exact ⟨⟨m + 1, h2, by omega, by go_num, HR.out, HB2.out, TurnB.fin hlt HI.out HTB.out⟩, by simp [intOf]; omega⟩
        · obtain rfl : m = f.blocks.length := by omega
          have HF := hidI (HI.out.fin hlt)
          have hc := HR.out.cell hlt
          have hcG := (HB2.out.cell (p := ⟨w.heap.size, 3, none⟩) zG).trans cG
          have HBN : Hid (Below w.heap.size w wr) := HBr.out.trans (HB2.out.mono HBr.out.size)
          cases hv : had a with
          | true =>
            rw [hv] at hc
            have HV := hidI hv
            clear hv
            go_wp2_with fail
            go_ret
            exact ⟨by rw [round_yes hlt (by rw [← HF.out, HV.out])]; rfl, HBN.out⟩
          | false =>
            rw [hv] at hc
            have HV := hidI hv
            clear hv
            go_wp2_with fail
            refine ⟨⟨a + 1, by omega, by go_num, HBN.out, hcG, fun x hx => ?_⟩, by simp [intOf]; omega⟩
            by_cases e : x = a
            · subst e; rw [← HF.out, HV.out]
            · exact HNo.out x (by omega)
    · obtain rfl : a = f.blocks.length := by omega
      go_wp2_with fail
      go_ret
      exact ⟨by rw [round_none HNo.out]; rfl, HBr.out⟩
end Go.Proofs.YtlalmbklhmpngaaDoor
