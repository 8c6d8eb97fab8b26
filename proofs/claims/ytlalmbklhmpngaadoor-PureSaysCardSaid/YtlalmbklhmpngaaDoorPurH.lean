/-
  The contract of pure.goesRound: depth first.
-/
import Derived.Test.YtlalmbklhmpngaaDoorPurG
import Derived.Test.YtlalmbklhmpngaaDoorBCalO
import Derived.WalkKit
import Derived.WalkSpells
import Derived.WalkLawsBesides
namespace Go.Proofs.YtlalmbklhmpngaaDoor
open Go.RowKit

set_option maxRecDepth 100000 in
set_option maxHeartbeats 1000000 in
theorem cyc_visit (f : FunL) (bp : Option Addr) (bc : Nat) (w0 : World) (hn : f.blocks.length ≤ 1000) (hB : SliceAt w0 6 (BlkR w0) bp f.blocks) (hT : ∀ k (h : k < f.blocks.length), ∀ t ∈ f.blocks[k].fin.to, 0 ≤ t ∧ t < (f.blocks.length : Int)) (V H G F : Nat) (hV : w0.heap.size ≤ V) (hVH : V ≠ H) (hVG : V ≠ G) (hVF : V ≠ F) :
    ∀ (c : Nat) (σ : Nat → Nat) (w : World) (k : Nat), leftN f.blocks.length (fun j => σ j != 0) < c → k < f.blocks.length → Below w0.heap.size w0 w → w.rowIs V 3 f.blocks.length (fun j => .int .i64 (σ j : Int)) →
      w.cell? ⟨H, 0, none⟩ = some (.slice (some ⟨V, 0, none⟩) f.blocks.length f.blocks.length) → w.cell? ⟨G, 3, none⟩ = some (.slice bp f.blocks.length bc) → w.cell? ⟨F, 0, none⟩ = some (.func (.func 109) #[] #[.pointer (some ⟨H, 0, none⟩), .pointer (some ⟨G, 0, none⟩), .pointer (some ⟨F, 0, none⟩)]) →
      Dfs f σ → (∀ x, x < f.blocks.length → σ x = 1 → plusB f x k = true) → (∀ x, σ x ≤ 2) →
      Calls Tryd.prog 109 #[.int .i64 k, .pointer (some ⟨H, 0, none⟩), .pointer (some ⟨G, 0, none⟩), .pointer (some ⟨F, 0, none⟩)] w fun e w' => ∃ r : Bool, e = .returned (.bool r) ∧ w.grownBy w' (some V) ∧ (r = true → roundB f = true) ∧ (r = false → ∃ σ', w'.rowIs V 3 f.blocks.length (fun j => .int .i64 (σ' j : Int)) ∧ Found f k σ σ' ∧ ∀ x, σ' x ≤ 2) := by
  intro c
  induction c with
  | zero => intro σ w k h; omega
  | succ c ih =>
    intro σ w k hc hk hb hR cH cG cF hD hP hL
    obtain ⟨bb, bo, pp, pc, lp, lc, tp, tc, hbp, b0, b1, b2, b3, b4, b5, _, _, _, hll, htl, _, hLi, hTo⟩ := blkGet hB (Below.refl _ _) hk
    subst hbp
    have hbb := lt_of_cell b5
    have e5 := (hb.cell (p := ⟨bb, _, none⟩) hbb).trans b5
    have HB := hidI hb
    have HR := hidI hR
    have HTo := hidI hTo
    have HT := hidI hT
    have HD := hidI hD
    have HP := hidI hP
    have HL := hidI hL
    have hcV := hR.cell hk
    have hfV := hR.frozen k
    have hVs := hR.lt
    have IH := hidI ih
    have hl2 := hL k
    have hgr : ∀ (w : World) (v : Value), w.grownBy (w.setCell ⟨V, k, none⟩ v) (some V) := fun w v => ⟨rfl, rfl, rfl, by rw [Go.Deep.nblk_setCell]; exact Nat.le_refl _, fun i _ hne => Go.Deep.blk_setCell_other _ _ _ _ (fun e => hne (by rw [e]))⟩
    have HGr := hidI hgr
    clear ih hb hB b0 b1 b2 b3 b4 b5 hT hTo hLi hD hP hL hgr
    rcases (show σ k = 0 ∨ σ k = 1 ∨ σ k = 2 by omega) with hh | hh | hh
    · have hbV : bb ≠ V := by omega
      rw [hh] at hcV
      have hVH' := hVH.symm
      have hVG' := hVG.symm
      have hVF' := hVF.symm
      have hbV' := hbV.symm
      have HH := hidI hh
      have HR1 := hidI (hR.set k (.int .i64 1))
      clear hR hh
      go_enter Tryd.func109, Tryd.ntmps109
      go_wp2
      go_loopw [7, 27] (fun _ i wr => ∃ (m : Nat) (σ1 : Nat → Nat), m ≤ f.blocks[k].fin.to.length ∧ i = .int .i64 m ∧ FoundTo f k f.blocks[k].fin.to m σ σ1 ∧ wr.rowIs V 3 f.blocks.length (fun j => .int .i64 (σ1 j : Int)) ∧ w.grownBy wr (some V) ∧ ∀ x, σ1 x ≤ 2) (fun _ i _ => f.blocks[k].fin.to.length - (intOf i).toNat)
      case atStart =>
        refine ⟨0, updN σ k 1, by omega, rfl, .start HD.out HH.out, HR1.out.congr fun j _ => ?_, HGr.out _ _, fun x => ?_⟩
        · show (if j = k then _ else _) = Value.int .i64 ((updN σ k 1 j : Nat) : Int)
          unfold updN
          split <;> rfl
        · unfold updN
          have := HL.out x
          split <;> omega
      case round =>
        obtain ⟨m, σ1, hm, rfl, hv, hr1, hg1, hl1⟩ := hrel
        have hlF := lt_of_cell cF
        have hlH := lt_of_cell cH
        have hlG := lt_of_cell cG
        have hsz := HB.out.size
        have hBr : Below w0.heap.size w0 wr := HB.out.grown hg1 hsz (fun b e => by cases e; exact hV)
        have cF1 := (World.cell?_of_block (a := ⟨F, 0, none⟩) (hg1.block F hlF (by simp; exact hVF'))).trans cF
        have cH1 := (World.cell?_of_block (a := ⟨H, 0, none⟩) (hg1.block H hlH (by simp; exact hVH'))).trans cH
        have cG1 := (World.cell?_of_block (a := ⟨G, 3, none⟩) (hg1.block G hlG (by simp; exact hVG'))).trans cG
        by_cases hlt : m < f.blocks[k].fin.to.length
        · obtain ⟨b4, o4, hp4, f0, hi⟩ := intGet HTo.out hBr hlt
          subst hp4
          obtain ⟨hx0, hx1⟩ := HT.out k hk _ (List.getElem_mem hlt)
          obtain ⟨y, hy⟩ : ∃ y : Nat, f.blocks[k].fin.to[m] = (y : Int) := ⟨f.blocks[k].fin.to[m].toNat, by omega⟩
          have hw : wayB f k y = true := (way_mem hk).2 ⟨_, List.getElem_mem hlt, hy⟩
          have hyt : f.blocks[k].fin.to[m].toNat = y := by omega
          rw [hy] at f0 hx1
          have hyn : y < f.blocks.length := by omega
          have hless : leftN f.blocks.length (fun j => σ1 j != 0) < c := by
            have := leftN_less (n := f.blocks.length) (p := fun j => σ j != 0) (q := fun j => σ1 j != 0) (fun j hj => by
              have h0 := HL.out j
              have h1 := hl1 j
              simp only [bne_iff_ne, ne_eq] at hj ⊢
              rcases Decidable.em (j = k) with e | e
              · rw [e, hv.self]; omega
              · rcases (show σ j = 1 ∨ σ j = 2 by omega) with e2 | e2
                · have := (hv.opn j e).2 e2; omega
                · have := hv.up j e2; omega) hk (by simp [HH.out]) (by simp [hv.self])
            omega
          have HV := hidI hv
          have HG1 := hidI hg1
          have HR2 := hidI hr1
          have HBR := hidI hBr
          have HY := hidI hyt
          have HW := hidI hw
          have HLd := hidI (hv.lead hk HP.out hyn hw)
          have HL1 := hidI hl1
          clear hv hg1 hr1 hBr hy hyt hw hl1
          go_wp2_with fail
          refine (IH.out σ1 wr y hless hyn HBR.out HR2.out cH1 cG1 cF1 HV.out.dfs HLd.out HL1.out).mono ?_
          rintro e w2 ⟨r, rfl, hg2, ht, hf⟩
          have hg3 : w.grownBy w2 (some V) := ⟨hg2.os.trans HG1.out.os, hg2.tape.trans HG1.out.tape, hg2.output.trans HG1.out.output, Nat.le_trans HG1.out.size hg2.size, fun i hi hne => (hg2.block i (by have := HG1.out.size; omega) hne).trans (HG1.out.block i hi hne)⟩
          have HG3 := hidI hg3
          clear hg2 hg3
          cases r with
          | true =>
            have HT1 := hidI (ht rfl)
            clear ht hf
            go_wp2
            go_ret
            exact ⟨true, rfl, HG3.out, fun _ => HT1.out, fun h => by cases h⟩
          | false =>
            obtain ⟨σ2, hr2, hf2, hl2⟩ := hf rfl
            have HR3 := hidI hr2
            have HF2 := hidI hf2
            have HL2 := hidI hl2
            clear ht hf hr2 hf2 hl2
            go_wp2
            exact ⟨⟨m + 1, σ2, by omega, by go_num, HV.out.succ hlt (by rw [HY.out]; exact HF2.out), HR3.out, HG3.out, HL2.out⟩, by simp [intOf]; omega⟩
        · obtain rfl : m = f.blocks[k].fin.to.length := by omega
          have hcV2 := hr1.cell hk
          have hfV2 := hr1.frozen k
          have hVs2 := hr1.lt
          have HV := hidI hv
          have HG1 := hidI hg1
          have HR2 := hidI hr1
          have HL1 := hidI hl1
          have HBR := hidI hBr
          clear hv hg1 hr1 hBr hl1
          go_wp2
          go_ret
          refine ⟨false, rfl, ?_, (fun h => by cases h), fun _ => ⟨updN σ1 k 2, (HR2.out.set k (.int .i64 2)).congr fun j _ => ?_, HV.out.fin hk HH.out, fun x => ?_⟩⟩
          · have hg2 := HGr.out wr (.int .i64 2)
            exact ⟨hg2.os.trans HG1.out.os, hg2.tape.trans HG1.out.tape, hg2.output.trans HG1.out.output, Nat.le_trans HG1.out.size hg2.size, fun i hi hne => (hg2.block i (by have := HG1.out.size; omega) hne).trans (HG1.out.block i hi hne)⟩
          · show (if j = k then _ else _) = Value.int .i64 ((updN σ1 k 2 j : Nat) : Int)
            unfold updN
            split <;> rfl
          · unfold updN
            have := HL1.out x
            split <;> omega
    · rw [hh] at hcV
      go_enter Tryd.func109, Tryd.ntmps109
      go_wp2
      go_ret
      exact ⟨true, rfl, ⟨rfl, rfl, rfl, Nat.le_refl _, fun _ _ _ => rfl⟩, fun _ => round_yes hk (HP.out k hk hh), fun h => by cases h⟩
    · rw [hh] at hcV
      go_enter Tryd.func109, Tryd.ntmps109
      go_wp2
      go_ret
      exact ⟨false, rfl, ⟨rfl, rfl, rfl, Nat.le_refl _, fun _ _ _ => rfl⟩, (fun h => by cases h), fun _ => ⟨σ, HR.out, Found.had HD.out hh, HL.out⟩⟩

theorem infoInt6 : (Tryd.prog.info? 3).map (fun i => (i.zero, i.size, i.bytes)) = some (some (.int .i64 0), 1, 8) := by kernel_rfl
theorem underInts6 : Tryd.prog.underlying 38 = some (.slice 3) := by kernel_rfl
set_option maxRecDepth 100000 in
set_option maxHeartbeats 1000000 in
theorem goesRound_any (f : FunL) (bp : Option Addr) (bc : Nat) (w : World) (hn : f.blocks.length ≤ 1000) (hB : SliceAt w 6 (BlkR w) bp f.blocks) (hT : ∀ k (h : k < f.blocks.length), ∀ t ∈ f.blocks[k].fin.to, 0 ≤ t ∧ t < (f.blocks.length : Int)) :
    Calls Tryd.prog 90 #[.agg #[.string f.name, .int .i64 f.params, .int .i64 f.regs, .slice bp f.blocks.length bc]] w fun e w' => e = .returned (.bool (roundB f)) ∧ Below w.heap.size w w' := by
  obtain ⟨i1, k1, k2, k3, k4⟩ := info_parts infoInt6
  have hmk := run_make_row 38 3 i1 (.int .i64 0) underInts6 k1 k2 k3 rfl .i64 .i64 f.blocks.length (by rw [k4]; omega) (by omega)
  have HB := hidI hB
  have HT := hidI hT
  clear hB hT
  go_enter Tryd.func90, Tryd.ntmps90
  go_wp2_with fail
  go_loopw [14] (fun i wr => ∃ (k : Nat) (σ : Nat → Nat), k ≤ f.blocks.length ∧ i = .int .i64 k ∧ Below w.heap.size w wr ∧ wr.rowIs (w.heap.size + 1) 3 f.blocks.length (fun j => .int .i64 (σ j : Int)) ∧
      wr.cell? ⟨w.heap.size + 1 + 1, 0, none⟩ = some (.slice (some ⟨w.heap.size + 1, 0, none⟩) f.blocks.length f.blocks.length) ∧ wr.cell? ⟨w.heap.size, 3, none⟩ = some (.slice bp f.blocks.length bc) ∧ wr.cell? ⟨w.heap.size + 1 + 1 + 1, 0, none⟩ = some (.func (.func 109) #[] #[.pointer (some ⟨w.heap.size + 1 + 1, 0, none⟩), .pointer (some ⟨w.heap.size, 0, none⟩), .pointer (some ⟨w.heap.size + 1 + 1 + 1, 0, none⟩)]) ∧
      Dfs f σ ∧ (∀ x, σ x ≠ 1) ∧ (∀ x, σ x ≤ 2) ∧ ∀ b, b < k → σ b = 2) (fun i _ => f.blocks.length - (intOf i).toNat)
  case atStart =>
    refine ⟨0, fun _ => 0, by omega, rfl, by repeat (first | with_reducible exact Below.refl _ _ | with_reducible exact HB3.out | with_reducible refine Below.drew ?_ | with_reducible refine below_drewN ?_ _ | with_reducible refine Below.setCell ?_ ?_ _ | with_reducible refine Below.alloc ?_ ?_ _ | with_reducible exact HB2.out | with_reducible exact HB1.out | with_reducible refine Below.trans ?_ (Below.mono hb3 ?_) | with_reducible refine Below.trans ?_ (Below.mono hb5 ?_) | with_reducible refine Below.trans ?_ (Below.mono hb4 ?_) | omega | (simp; omega) | simp), ?_, ?_, ?_, ?_, ⟨fun _ _ _ _ (h : (0 : Nat) = 2) => absurd h (by omega), fun _ _ (h : (0 : Nat) = 2) => absurd h (by omega)⟩, fun _ (h : (0 : Nat) = 1) => absurd h (by omega), fun _ => Nat.zero_le _, fun _ h => by omega⟩
    · have hM := World.rowIs_made (w.alloc (.cells #[.string f.name, .int .i64 f.params, .int .i64 f.regs, .slice bp f.blocks.length bc] 55)) (.int .i64 0) f.blocks.length 3
      have e : (w.alloc (.cells #[.string f.name, .int .i64 f.params, .int .i64 f.regs, .slice bp f.blocks.length bc] 55)).heap.size = w.heap.size + 1 := by simp
      rw [e] at hM
      exact (hM.alloc _).alloc _
    · exact (blk (heap_step (heap_at (by simp)))).1 0
    · exact (blk (heap_step (heap_step (heap_step (heap_here w _))))).1 3
    · exact (blk (heap_at (by simp))).1 0
  case round =>
    obtain ⟨k, σ, hk, rfl, hb, hR, cH, cG, cF, hD, h1, h2, hdn⟩ := hrel
    have zV := hR.lt
    have zH := lt_of_cell cH
    have zG := lt_of_cell cG
    have zF := lt_of_cell cF
    have HBr := hidI hb
    have HR := hidI hR
    have HD := hidI hD
    have H1 := hidI h1
    have H2 := hidI h2
    have HDn := hidI hdn
    clear hb hR hD h1 h2 hdn
    by_cases hlt : k < f.blocks.length
    · go_wp2_with fail
      refine (cyc_visit f bp bc w hn HB.out HT.out (w.heap.size + 1) (w.heap.size + 1 + 1) w.heap.size (w.heap.size + 1 + 1 + 1) (by omega) (by omega) (by omega) (by omega) (leftN f.blocks.length (fun j => σ j != 0) + 1) σ wr k (by omega) hlt HBr.out HR.out cH cG cF HD.out (fun x _ e => absurd e (H1.out x)) H2.out).mono ?_
      rintro e w2 ⟨r, rfl, hg, ht, hf⟩
      have HBr2 : Hid (Below w.heap.size w w2) := HBr.out.grown hg HBr.out.size (fun b e => by cases e; omega)
      have cH2 := (World.cell?_of_block (a := ⟨w.heap.size + 1 + 1, 0, none⟩) (hg.block _ zH (by simp; try omega))).trans cH
      have cG2 := (World.cell?_of_block (a := ⟨w.heap.size, 3, none⟩) (hg.block _ zG (by simp; try omega))).trans cG
      have cF2 := (World.cell?_of_block (a := ⟨w.heap.size + 1 + 1 + 1, 0, none⟩) (hg.block _ zF (by simp; try omega))).trans cF
      cases r with
      | true =>
        have HT1 := hidI (ht rfl)
        clear hg ht hf
        go_wp2
        go_ret
        exact ⟨by rw [HT1.out]; rfl, HBr2.out⟩
      | false =>
        obtain ⟨σ2, hr2, hf2, hl2⟩ := hf rfl
        have HR2 := hidI hr2
        have HF2 := hidI hf2
        have HL2 := hidI hl2
        clear hg ht hf hr2 hf2 hl2
        go_wp2
        refine ⟨⟨k + 1, σ2, by omega, by go_num, HBr2.out, HR2.out, cH2, cG2, cF2, HF2.out.dfs, fun x e => H1.out x ((HF2.out.opn x).1 e), HL2.out, fun b hb => ?_⟩, by simp [intOf]; omega⟩
        by_cases e : b = k
        · subst e; exact HF2.out.self
        · exact HF2.out.up b (HDn.out b (by omega))
    · obtain rfl : k = f.blocks.length := by omega
      go_wp2
      go_ret
      exact ⟨by rw [round_none fun b hb => HD.out.none b hb (HDn.out b hb)]; rfl, HBr.out⟩
end Go.Proofs.YtlalmbklhmpngaaDoor
