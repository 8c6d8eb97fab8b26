/-
  The contract of the checker's body.
  The contract of the checker's head.
  The contract of slices.IndexFunc with the question whether a function is main.
-/
import Derived.WalkKit
import Derived.WalkSpells
import Derived.WalkLawsBesides
import Derived.Test.YtdjamkinijhjoaaDoorJChkN
import Derived.IntWalk
namespace Go.Proofs.YtdjamkinijhjoaaDoor
open Go.RowKit

theorem tos_getD (f : FunL) (i : Nat) (hi : i < f.blocks.length) : (tosL f).getD i [] = f.blocks[i].fin.to := by
 simp [tosL, List.getD, hi]

theorem endE_zero {regs : Int} {nb : Nat} {kind : Int} {r : Bool} {n : Int} {to : List Int} (h : endE regs nb kind r n to = 0) : to.length ≤ 2 ∧ ∀ t ∈ to, 1 ≤ t ∧ t < nb := by
 unfold endE at h
 by_cases a : 1 ≤ kind ∧ kind ≤ 3
 ·rw [if_neg (by simpa using a)] at h
  by_cases b : (to.length : Int) = kind - 1
  ·rw [if_neg (by simpa using b)] at h
   by_cases c : to.any (fun t => !wthn t 1 ((nb : Int) - 1)) = true
   ·rw [if_pos c] at h; cases h
   ·refine ⟨by omega, fun t ht => ?_⟩
    rw [List.any_eq_true] at c
    have hc : ¬(!wthn t 1 ((nb : Int) - 1)) = true := fun hh => c ⟨t, ht, hh⟩
    unfold wthn at hc
    simp at hc
    omega
  ·rw [if_pos (by simpa using b)] at h; cases h
 ·rw [if_pos (by simpa using a)] at h; cases h

theorem heap_set {w : World} {k : Nat} {A : Array Value} {T : TypeId} (h : w.heap[k]? = some (.cells A T (0, 0))) (o : Nat) (v : Value) : (w.setCell ⟨k, o, none⟩ v).heap[k]? = some (.cells (A.setIfInBounds o v) T (0, 0)) := by
 simp [World.setCell, Array.getElem?_modify, h]
theorem Rows2.at {w : World} {B T n : Nat} {ts ti : TypeId} {ps : List (Nat × Nat)} {f : Nat → Value} (h : Rows2 w B T n ts ti ps f) {i : Nat} (hi : i < n) : ∃ q c, w.cell? ⟨T, i, none⟩ = some (.slice q (rowOf ps i).length c) := by
 have hc := h.tab.cell hi
 rcases (h.row i hi).2 with ⟨h1, h2⟩ | ⟨g, cap, cur, h1, _⟩
 ·rw [h1] at hc; exact ⟨none, 0, by rw [h2]; exact hc⟩
 ·rw [h1] at hc; exact ⟨_, _, hc⟩
theorem blkI_eq {u : UniL} {f : FunL} {k : Nat} (hk : k < f.blocks.length) : blkI u f k = blkE u f k f.blocks[k] := by
 unfold blkI
 rw [List.getElem?_eq_getElem hk]
theorem blkI_phi {u : UniL} {f : FunL} {k j : Nat} (hk : k < f.blocks.length) (hj : j < f.blocks[k].phis.length) (h0 : ∀ i (h : i < f.blocks[k].phis.length), i < j → phiL f k (rowOf (waysL f) k).length f.blocks[k].phis[i] = 0)
  (h : phiL f k (rowOf (waysL f) k).length f.blocks[k].phis[j] ≠ 0) : blkI u f k = phiL f k (rowOf (waysL f) k).length f.blocks[k].phis[j] := by
 rw [blkI_eq hk]
 have hl := firstE_hit (l := f.blocks[k].phis.map (phiL f k (rowOf (waysL f) k).length)) (k := j) (by simpa using hj) (fun i hi => by simpa using h0 i (by omega) hi) (by simpa using h)
 rw [List.getElem_map] at hl
 unfold blkE
 rw [hl, if_neg h]
theorem blkI_ins {u : UniL} {f : FunL} {k j : Nat} (hk : k < f.blocks.length) (hp : ∀ i (h : i < f.blocks[k].phis.length), phiL f k (rowOf (waysL f) k).length f.blocks[k].phis[i] = 0) (hj : j < f.blocks[k].list.length) (h0 : ∀ i (h : i < f.blocks[k].list.length), i < j → insL u f f.blocks[k].list[i] = 0)
  (h : insL u f f.blocks[k].list[j] ≠ 0) : blkI u f k = insL u f f.blocks[k].list[j] := by
 rw [blkI_eq hk]
 have hz : firstE (f.blocks[k].phis.map (phiL f k (rowOf (waysL f) k).length)) = 0 := firstE_zero fun x hx => by
  obtain ⟨b, hb, rfl⟩ := List.mem_map.1 hx
  obtain ⟨i, hi, rfl⟩ := List.mem_iff_getElem.1 hb
  exact hp i hi
 have hl := firstE_hit (l := f.blocks[k].list.map (insL u f)) (k := j) (by simpa using hj) (fun i hi => by simpa using h0 i (by omega) hi) (by simpa using h)
 rw [List.getElem_map] at hl
 unfold blkE
 rw [if_pos hz, hl]
theorem blkI_zero {u : UniL} {f : FunL} {k : Nat} (hk : k < f.blocks.length) (hp : ∀ i (h : i < f.blocks[k].phis.length), phiL f k (rowOf (waysL f) k).length f.blocks[k].phis[i] = 0) (h0 : ∀ i (h : i < f.blocks[k].list.length), insL u f f.blocks[k].list[i] = 0) : blkI u f k = 0 := by
 rw [blkI_eq hk]
 have hz : firstE (f.blocks[k].phis.map (phiL f k (rowOf (waysL f) k).length)) = 0 := firstE_zero fun x hx => by
  obtain ⟨b, hb, rfl⟩ := List.mem_map.1 hx
  obtain ⟨i, hi, rfl⟩ := List.mem_iff_getElem.1 hb
  exact hp i hi
 unfold blkE
 rw [if_pos hz]
 exact firstE_zero fun x hx => by
  obtain ⟨b, hb, rfl⟩ := List.mem_map.1 hx
  obtain ⟨i, hi, rfl⟩ := List.mem_iff_getElem.1 hb
  exact h0 i hi
theorem bodyE_hit {u : UniL} {f : FunL} {k : Nat} {e : Int} (hA : firstE (f.blocks.map fun b => endL f b.fin) = 0) (hk : k < f.blocks.length) (h0 : ∀ j, j < k → blkI u f j = 0) (h : blkI u f k = e) (he : e ≠ 0) : bodyE u f = e := by
 unfold bodyE
 rw [if_pos hA]
 have hl := firstE_hit (l := (List.range f.blocks.length).map (blkI u f)) (k := k) (by simpa using hk) (fun i hi => by simpa using h0 i hi) (by simpa [h] using he)
 rw [hl]
 simpa using h
theorem bodyE_zero {u : UniL} {f : FunL} (hA : firstE (f.blocks.map fun b => endL f b.fin) = 0) (h0 : ∀ j, j < f.blocks.length → blkI u f j = 0) : bodyE u f = 0 := by
 unfold bodyE
 rw [if_pos hA]
 exact firstE_zero fun x hx => by
  obtain ⟨i, hi, rfl⟩ := List.mem_map.1 hx
  exact h0 i (List.mem_range.1 hi)
theorem parAt {w w' : World} {u : UniL} {fp : Option Addr} (h : SliceAt w 4 (FunR w) fp u.funcs) (hb : Below w.heap.size w w') : u.funcs.length = 0 ∨ ∃ fb fo, fp = some ⟨fb, fo, none⟩ ∧ ∀ i, i < u.funcs.length → w'.cell? ⟨fb, fo + i * 4 + 1, none⟩ = some (.int .i64 (parU u i)) := by
 rcases h with h0 | ⟨b, o, hp, h⟩
 ·exact .inl (by rw [h0]; rfl)
 ·refine .inr ⟨b, o, hp, fun i hi => ?_⟩
  obtain ⟨b2, o2, q, c, hp2, _, e1, _⟩ := funGet (.inr ⟨b, o, hp, h⟩) hb hi
  rw [hp] at hp2
  cases hp2
  rw [e1]
  simp [parU, List.getD, hi]
theorem Ways.below {w w' : World} (h : Ways w) (hb : Below w.heap.size w w') : Ways w' := by
 obtain ⟨h0, h1, h2, h3⟩ := h
 have hl := lt_of_cell h0
 exact ⟨(hb.cell (p := ⟨1, _, none⟩) hl).trans h0, (hb.cell (p := ⟨1, _, none⟩) hl).trans h1, (hb.cell (p := ⟨1, _, none⟩) hl).trans h2, (hb.cell (p := ⟨1, _, none⟩) hl).trans h3⟩

theorem blkAt_of {w w' : World} {b o : Nat} {f : FunL} (h : SliceAt w 6 (BlkR w) (some ⟨b, o, none⟩) f.blocks) (hb : Below w.heap.size w w') (i : Nat) (hi : i < f.blocks.length) : BlkAt w' b o i ((tosL f).getD i []) := by
 obtain ⟨b2, o2, q1, c1, q2, c2, q3, c3, hp, e0, e1, e2, e3, e4, e5, _, _, _, _, _, _, _, ht⟩ := blkGet h hb hi
 cases hp
 rw [tos_getD f i hi]
 exact ⟨_, _, _, _, _, _, _, _, _, _, _, e0, e1, e2, e3, e4, e5, ht⟩

set_option maxRecDepth 100000 in
set_option maxHeartbeats 1000000 in
theorem body_any (u : UniL) (f : FunL) (g1 fp : Option Addr) (g2 g3 fc bc bb bo : Nat) (w : World)
  (h1 : 0 ≤ f.regs) (h2 : f.regs ≤ 100) (hn1 : 1 ≤ f.blocks.length) (hn2 : f.blocks.length ≤ 40)
  (hfl : u.funcs.length ≤ 10) (hF : SliceAt w 4 (FunR w) fp u.funcs) (hb : SliceAt w 6 (BlkR w) (some ⟨bb, bo, none⟩) f.blocks) (hw0 : Ways w) :
  Calls Tryd.prog 36 #[.agg #[.slice g1 g2 g3, .slice fp u.funcs.length fc, .string f.name, .int .i64 f.params, .int .i64 f.regs, .slice (some ⟨bb, bo, none⟩) f.blocks.length bc, .slice none 0 0]] w fun e w' => e = .returned (.int .i64 (bodyE u f)) ∧ Below w.heap.size w w' := by
 have HF : Hid (SliceAt w 4 (FunR w) fp u.funcs) := hF
 have HB : Hid (SliceAt w 6 (BlkR w) (some ⟨bb, bo, none⟩) f.blocks) := hb
 have HW : Hid (Ways w) := hw0
 clear hF hb hw0
 go_enter Tryd.func36, Tryd.ntmps36
 go_wp2
 go_loopw [18] (fun i wr => ∃ k : Nat, k ≤ f.blocks.length ∧ i = .int .i64 k ∧ (∀ j (h : j < f.blocks.length), j < k → endL f f.blocks[j].fin = 0) ∧ Below (w.heap.size + 1) (w.alloc (.cells #[.slice g1 g2 g3, .slice fp u.funcs.length fc, .string f.name, .int .i64 f.params, .int .i64 f.regs, .slice (some ⟨bb, bo, none⟩) f.blocks.length bc, .slice none 0 0] 96)) wr) (fun i _ => f.blocks.length - (intOf i).toNat)
 case atStart => exact ⟨0, by omega, rfl, fun j _ h => by omega, Below.refl _ _⟩
 case round =>
  obtain ⟨k, hk, rfl, hV, hb⟩ := hrel
  have HV := hidI hV
  have HBw := hidI hb
  have hbw : Below w.heap.size w wr := ((Below.refl _ _).alloc (Nat.le_refl _) _).trans (hb.mono (by omega))
  have HBx := hidI hbw
  have hz : w.heap.size < wr.heap.size := by have := hb.size; simp at this; omega
  obtain ⟨hcc, hcf⟩ := blk (heap_below hb (by omega) (heap_here _ _))
  clear hV hb hbw
  by_cases hlt : k < f.blocks.length
  ·obtain ⟨b2, o2, q1, c1, q2, c2, q3, c3, hp, e0, e1, e2, e3, e4, e5, _, _, _, _, hl3, _, _, ht⟩ := blkGet HB.out HBx.out hlt
   cases hp
   have HT := hidI ht
   have HE : Hid (endL f f.blocks[k].fin = endE f.regs f.blocks.length f.blocks[k].fin.kind f.blocks[k].fin.onr f.blocks[k].fin.onn f.blocks[k].fin.to) := rfl
   clear ht
   go_wp2_with fail
   refine (end_any _ _ _ _ _ _ _ _ _ _ _ _ _ _ _ _ _ _ _ _ _ _ (by omega) (by omega) (by omega) (by omega) ?_ ?_).mono ?_
   ·exact HT.out.mono ((Below.refl _ _).alloc (Nat.le_refl _) _) (by omega) fun _ _ h => h
   ·exact HW.out.below (HBx.out.alloc (by omega) _)
   rintro e w3 ⟨rfl, hb3⟩
   have HN : Hid (Below (w.heap.size + 1) (w.alloc (.cells #[.slice g1 g2 g3, .slice fp u.funcs.length fc, .string f.name, .int .i64 f.params, .int .i64 f.regs, .slice (some ⟨bb, bo, none⟩) f.blocks.length bc, .slice none 0 0] 96)) w3) := HBw.out.trans (((Below.refl _ _).alloc (by omega) _).trans (hb3.mono (by simp; omega)))
   generalize hE : endE f.regs f.blocks.length f.blocks[k].fin.kind f.blocks[k].fin.onr f.blocks[k].fin.onn f.blocks[k].fin.to = ee
   have HE2 : Hid (endL f f.blocks[k].fin = ee) := hE
   clear hE HE hb3
   by_cases hz0 : ee = 0
   ·have hzb : (ee != 0) = false := by simp [hz0]
    have HZ := hidI hz0
    clear hz0
    go_wp2_with fail
    refine ⟨⟨k + 1, by omega, by go_num, fun j hj hjk => ?_, HN.out⟩, by simp [intOf]; omega⟩
    by_cases hj2 : j < k
    ·exact HV.out j hj hj2
    ·obtain rfl : j = k := by omega
     rw [HE2.out]; exact HZ.out
   ·have hzb : (ee != 0) = true := by simp [hz0]
    have HZ := hidI hz0
    clear hz0
    go_wp2_with fail
    go_ret
    refine ⟨?_, (Below.trans ((Below.refl _ _).alloc (Nat.le_refl _) _) (HN.out.mono (by omega)))⟩
    have hl : firstE (f.blocks.map fun b => endL f b.fin) = ee := by
     have := firstE_hit (l := f.blocks.map fun b => endL f b.fin) (k := k) (by simpa using hlt) (fun j hj => by simpa using HV.out j (by omega) hj) (by simpa [HE2.out] using HZ.out)
     simpa [HE2.out] using this
    unfold bodyE
    rw [hl, if_neg HZ.out]
    rfl
  ·have HA : Hid (firstE (f.blocks.map fun b => endL f b.fin) = 0) := by
    refine firstE_zero fun x hx => ?_
    obtain ⟨b, hb, rfl⟩ := List.mem_map.1 hx
    obtain ⟨i, hi, rfl⟩ := List.mem_iff_getElem.1 hb
    exact HV.out i hi (by omega)
   have hcnt : ∀ i, (rowOf (waysL f) i).length ≤ 80 := by
    intro i
    have h1 := rowOf_le (waysL f) i
    have h2 := waysOf_le (tosL f) f.blocks.length f.blocks.length (Nat.le_refl _) (fun i hi => by
     rw [tos_getD f i hi]
     exact (endE_zero (firstE_all HA.out _ (List.mem_map.2 ⟨f.blocks[i], List.getElem_mem hi, rfl⟩))).1)
    unfold waysL at h1 ⊢
    omega
   go_wp2_with fail
   refine (ahead_any _ _ _ _ _ _ _ (tosL f) _ hn2 (fun i hi => blkAt_of HB.out HBx.out i hi) (fun i hi => ?_)).mono ?_
   ·rw [tos_getD f i hi]
    exact endE_zero (firstE_all HA.out _ (List.mem_map.2 ⟨f.blocks[i], List.getElem_mem hi, rfl⟩))
   rintro e w2 ⟨⟨F, rfl, hR⟩, hb2⟩
   have hb2c := heap_below hb2 hz (heap_below HBw.out (by omega) (heap_here w _))
   obtain ⟨hcc2, hcf2⟩ := blk hb2c
   have HR := hidI hR
   have HB2 := hidI hb2
   clear hR hb2 hcc hcf
   have hb2c := hidI hb2c
   go_wp2_with fail
   obtain ⟨W, hW⟩ : ∃ W, w2.setCell ⟨w.heap.size, 6, none⟩ (.slice (some ⟨wr.heap.size + 1, 0, none⟩) f.blocks.length f.blocks.length) = W := ⟨_, rfl⟩
   rw [hW]
   have hT := HR.out.tab.lt
   have hWs : W.heap.size = w2.heap.size := by rw [← hW]; simp [World.setCell]
   have hWB : Hid (Below w.heap.size w W) := by
    rw [← hW]
    exact (HBx.out.trans (HB2.out.mono (by omega))).setCell (Nat.le_refl _) _
   have hWc : Hid (W.heap[w.heap.size]? = some (.cells #[.slice g1 g2 g3, .slice fp u.funcs.length fc, .string f.name, .int .i64 f.params, .int .i64 f.regs, .slice (some ⟨bb, bo, none⟩) f.blocks.length bc, .slice (some ⟨wr.heap.size + 1, 0, none⟩) f.blocks.length f.blocks.length] 96)) := by
    rw [← hW]
    exact heap_set hb2c.out 6 _
   have hWr : Hid (∀ i, i < f.blocks.length → ∃ q c, W.cell? ⟨wr.heap.size + 1, i, none⟩ = some (.slice q (rowOf (waysL f) i).length c)) := by
    intro i hi
    obtain ⟨q, c, hc⟩ := HR.out.at hi
    rw [← hW]
    exact ⟨q, c, by rw [World.cell?_of_block (Below.heap_setCell _ _ _ _ (by show wr.heap.size + 1 ≠ w.heap.size; omega))]; exact hc⟩
   have hzW : w.heap.size < W.heap.size := by omega
   clear hW HR HB2 hcc2 hcf2 hb2c HBw HBx HV
   generalize wr.heap.size + 1 = T at hT hWc hWr ⊢
   go_loopw [38] (fun i wr => ∃ k : Nat, k ≤ f.blocks.length ∧ i = .int .i64 k ∧ (∀ j, j < k → blkI u f j = 0) ∧ Below W.heap.size W wr) (fun i _ => f.blocks.length - (intOf i).toNat)
   case atStart => exact ⟨0, by omega, rfl, fun j h => by omega, Below.refl _ _⟩
   case round =>
    obtain ⟨wo, hwo⟩ : ∃ wo : World, wo = wr := ⟨_, rfl⟩
    obtain ⟨k, hk, rfl, hV, hb⟩ := hrel
    have HV := hidI hV
    have HBo := hidI hb
    have hzo : w.heap.size < wr.heap.size := by have := hb.size; omega
    have hzo2 : W.heap.size ≤ wr.heap.size := hb.size
    have HBx : Hid (Below w.heap.size w wr) := hWB.out.trans (hb.mono (by omega))
    have hco := heap_below hb hzW hWc.out
    obtain ⟨hcc, hcf⟩ := blk hco
    have HCo := hidI hco
    clear hV hb hco
    by_cases hlt : k < f.blocks.length
    ·obtain ⟨b2, o2, q1, c1, q2, c2, q3, c3, hp, e0, e1, e2, e3, e4, e5, _, _, hl1, hl2, hl3, hph, hins, _⟩ := blkGet HB.out HBx.out hlt
     cases hp
     have HPH := hidI hph
     have HIN := hidI hins
     clear hph hins
     go_wp2_with fail
     subst hwo
     go_loopw [46] (fun i wq => ∃ j : Nat, j ≤ f.blocks[k].phis.length ∧ i = .int .i64 j ∧ (∀ i (h : i < f.blocks[k].phis.length), i < j → phiL f k (rowOf (waysL f) k).length f.blocks[k].phis[i] = 0) ∧ Below (wo.heap.size + 1) (wo.alloc (.cells #[.slice q1 f.blocks[k].phis.length c1, .slice q2 f.blocks[k].list.length c2, .int .i64 f.blocks[k].fin.kind, .bool f.blocks[k].fin.onr, .int .i64 f.blocks[k].fin.onn, .slice q3 f.blocks[k].fin.to.length c3] 50)) wq) (fun i _ => f.blocks[k].phis.length - (intOf i).toNat)
     case atStart => exact ⟨0, by omega, rfl, fun j _ h => by omega, Below.refl _ _⟩
     case round =>
      obtain ⟨j, hj, rfl, hV, hb⟩ := hrel
      have HVp := hidI hV
      have HBp := hidI hb
      have hzp : wo.heap.size < wr.heap.size := by have := hb.size; simp at this; omega
      have HBy : Hid (Below wo.heap.size wo wr) := ((Below.refl _ _).alloc (Nat.le_refl _) _).trans (hb.mono (by omega))
      have hzq : w.heap.size < wr.heap.size := by omega
      clear hcc hcf
      obtain ⟨hcc, hcf⟩ := blk (heap_below HBy.out hzo HCo.out)
      obtain ⟨hcc3, hcf3⟩ := blk (heap_below hb (by omega) (heap_here wo _))
      clear hV hb
      by_cases hjl : j < f.blocks[k].phis.length
      ·obtain ⟨b4, o4, q4, c4, hp4, d0, d1, _, hl4, hsr⟩ := phiGet HPH.out HBy.out hjl
       subst hp4
       have HSR := hidI hsr
       obtain ⟨q5, c5, hq5⟩ := hWr.out k hlt
       have HQ5 := hidI hq5
       clear hsr hq5
       have HE : Hid (phiL f k (rowOf (waysL f) k).length f.blocks[k].phis[j] = phiE f.regs k (rowOf (waysL f) k).length f.blocks[k].phis[j].dst f.blocks[k].phis[j].src) := rfl
       go_wp2_with fail
       refine (phi_any _ _ _ _ T 0 _ _ _ _ _ _ _ _ _ _ (rowOf (waysL f) k).length c5 q5 _ _ _ _ _ _ (by omega) (by omega) ?_ ?_ ?_ ?_ ?_ ?_).mono ?_
       ·exact hlt
       ·omega
       ·omega
       ·have := hcnt k; omega
       ·rw [Nat.zero_add, World.cell?_of_block (Below.heap_alloc _ _ _ (by show T < _; have := HBy.out.size; omega)), HBy.out.cell (p := ⟨T, k, none⟩) (by show T < _; omega)]
        exact (HBo.out.cell (p := ⟨T, k, none⟩) (by show T < _; omega)).trans HQ5.out
       ·exact HSR.out.mono ((Below.refl _ _).alloc (Nat.le_refl _) _) (by omega) fun _ _ h => h
       rintro e w3 ⟨rfl, hb3⟩
       generalize hE : phiE f.regs k (rowOf (waysL f) k).length f.blocks[k].phis[j].dst f.blocks[k].phis[j].src = ee
       have HE2 : Hid (phiL f k (rowOf (waysL f) k).length f.blocks[k].phis[j] = ee) := hE
       have HN : Hid (Below (wo.heap.size + 1) (wo.alloc (.cells #[.slice (some ⟨b4, o4, none⟩) f.blocks[k].phis.length c1, .slice q2 f.blocks[k].list.length c2, .int .i64 f.blocks[k].fin.kind, .bool f.blocks[k].fin.onr, .int .i64 f.blocks[k].fin.onn, .slice q3 f.blocks[k].fin.to.length c3] 50)) w3) := HBp.out.trans (((Below.refl _ _).alloc (by omega) _).trans (hb3.mono (by simp; omega)))
       clear hE HE hb3
       by_cases hz0 : ee = 0
       ·have hzb : (ee != 0) = false := by simp [hz0]
        have HZ := hidI hz0
        clear hz0
        go_wp2_with fail
        refine ⟨⟨j + 1, by omega, by go_num, fun i hi hij => ?_, HN.out⟩, by simp [intOf]; omega⟩
        by_cases hj2 : i < j
        ·exact HVp.out i hi hj2
        ·obtain rfl : i = j := by omega
         rw [HE2.out]; exact HZ.out
       ·have hzb : (ee != 0) = true := by simp [hz0]
        have HZ := hidI hz0
        clear hz0
        go_wp2_with fail
        go_ret
        refine ⟨?_, HBx.out.trans (Below.trans ((Below.refl _ _).alloc (by omega) _) (HN.out.mono (by omega)))⟩
        rw [bodyE_hit HA.out hlt HV.out (blkI_phi hlt hjl (fun i hi hij => HVp.out i hi hij) (by rw [HE2.out]; exact HZ.out)) (by rw [HE2.out]; exact HZ.out), HE2.out]
        rfl
      ·have HP0 : Hid (∀ i (h : i < f.blocks[k].phis.length), phiL f k (rowOf (waysL f) k).length f.blocks[k].phis[i] = 0) := fun i hi => HVp.out i hi (by omega)
       clear HVp
       go_wp2_with fail
       go_loopw [61] (fun i wq => ∃ j : Nat, j ≤ f.blocks[k].list.length ∧ i = .int .i64 j ∧ (∀ i (h : i < f.blocks[k].list.length), i < j → insL u f f.blocks[k].list[i] = 0) ∧ Below wr.heap.size wr wq) (fun i _ => f.blocks[k].list.length - (intOf i).toNat)
       case atStart => exact ⟨0, by omega, rfl, fun j _ h => by omega, Below.refl _ _⟩
       case round =>
        obtain ⟨wv, hwv⟩ : ∃ wv : World, wv = wr := ⟨_, rfl⟩
        clear hcc hcf hcc3 hcf3
        obtain ⟨j2, hj2, rfl, hV, hb⟩ := hrel
        have HVi := hidI hV
        have HBi := hidI hb
        have HBz : Hid (Below wo.heap.size wo wr) := HBy.out.trans (hb.mono HBy.out.size)
        have hzs : wo.heap.size ≤ wr.heap.size := HBz.out.size
        have hzq2 : w.heap.size < wr.heap.size := by omega
        obtain ⟨hcc, hcf⟩ := blk (heap_below HBz.out hzo HCo.out)
        clear hV hb
        by_cases hjl2 : j2 < f.blocks[k].list.length
        ·obtain ⟨b4, o4, q4, c4, hp4, d0, d1, d2, d3, d4, d5, d6, d7, _, _, _, _, _, hl4, hsr⟩ := insGet HIN.out HBz.out hjl2
         subst hp4
         have HSR := hidI hsr
         clear hsr
         have HE : Hid (insL u f f.blocks[k].list[j2] = insE f.regs u.funcs.length (parU u) f.blocks[k].list[j2].op f.blocks[k].list[j2].dst f.blocks[k].list[j2].an f.blocks[k].list[j2].bn f.blocks[k].list[j2].fn f.blocks[k].list[j2].ar f.blocks[k].list[j2].br f.blocks[k].list[j2].args) := rfl
         subst hwv
         go_wp2_with fail
         refine (ins_any _ _ _ _ _ _ _ _ _ _ _ _ _ _ _ _ _ _ _ _ _ _ _ _ (parU u) _ _ (by omega) (by omega) (by omega) ?_ ?_ ?_).mono ?_
         ·exact parAt HF.out (HBx.out.trans ((HBz.out.mono (by omega)).trans ((Below.refl _ _).alloc (by omega) _)))
         ·omega
         ·exact HSR.out.mono ((Below.refl _ _).alloc (Nat.le_refl _) _) (by omega) fun _ _ h => h
         rintro e w3 ⟨rfl, hb3⟩
         generalize hE : insE f.regs u.funcs.length (parU u) f.blocks[k].list[j2].op f.blocks[k].list[j2].dst f.blocks[k].list[j2].an f.blocks[k].list[j2].bn f.blocks[k].list[j2].fn f.blocks[k].list[j2].ar f.blocks[k].list[j2].br f.blocks[k].list[j2].args = ee
         have HE2 : Hid (insL u f f.blocks[k].list[j2] = ee) := hE
         have HN : Hid (Below wv.heap.size wv w3) := ((Below.refl _ _).alloc (Nat.le_refl _) _).trans (hb3.mono (by simp))
         clear hE HE hb3
         by_cases hz0 : ee = 0
         ·have hzb : (ee != 0) = false := by simp [hz0]
          have HZ := hidI hz0
          clear hz0
          go_wp2_with fail
          refine ⟨⟨j2 + 1, by omega, by go_num, fun i hi hij => ?_, HBi.out.trans (HN.out.mono HBi.out.size)⟩, by simp [intOf]; omega⟩
          by_cases hj3 : i < j2
          ·exact HVi.out i hi hj3
          ·obtain rfl : i = j2 := by omega
           rw [HE2.out]; exact HZ.out
         ·have hzb : (ee != 0) = true := by simp [hz0]
          have HZ := hidI hz0
          clear hz0
          go_wp2_with fail
          go_ret
          refine ⟨?_, HBx.out.trans ((HBz.out.trans (HN.out.mono hzs)).mono (by omega))⟩
          rw [bodyE_hit HA.out hlt HV.out (blkI_ins hlt HP0.out hjl2 (fun i hi hij => HVi.out i hi hij) (by rw [HE2.out]; exact HZ.out)) (by rw [HE2.out]; exact HZ.out), HE2.out]
          rfl
        ·go_wp2_with fail
         refine ⟨⟨k + 1, by omega, by go_num, fun i hi => ?_, HBo.out.trans (HBz.out.mono hzo2)⟩, by simp [intOf]; omega⟩
         by_cases hj3 : i < k
         ·exact HV.out i hj3
         ·obtain rfl : i = k := by omega
          exact blkI_zero hlt HP0.out (fun i hi => HVi.out i hi (by omega))
    ·go_wp2
     go_ret
     refine ⟨?_, HBx.out⟩
     rw [bodyE_zero HA.out (fun j hj => HV.out j (by omega))]
     rfl
end Go.Proofs.YtdjamkinijhjoaaDoor
namespace Go.Proofs.YtdjamkinijhjoaaDoor
open Go.RowKit

def manyTo (f : FunL) (k : Nat) : Nat := ((f.blocks.take k).map fun b => b.phis.length + b.list.length).sum
theorem manyTo_succ (f : FunL) (k : Nat) (hk : k < f.blocks.length) : manyTo f (k + 1) = manyTo f k + (f.blocks[k].phis.length + f.blocks[k].list.length) := by
 unfold manyTo
 rw [List.take_succ_eq_append_getElem hk, List.map_append, List.sum_append]
 simp
theorem manyTo_all (f : FunL) : manyTo f f.blocks.length = manyL f := by
 unfold manyTo manyL
 rw [List.take_length]


theorem strs_below {w w' : World} {p : Option Addr} {S : List ByteArray} (h : StrsAt w p S) (hb : Below w.heap.size w w') : StrsAt w' p S := by
 rcases h with h | ⟨b, o, hp, h⟩
 ·exact .inl h
 ·exact .inr ⟨b, o, hp, fun i hi => (hb.cell (p := ⟨b, o + i, none⟩) (lt_of_cell (h i hi))).trans (h i hi)⟩

set_option maxRecDepth 100000 in
set_option maxHeartbeats 1000000 in
theorem head_any (f : FunL) (names : List ByteArray) (g1 fp bp np : Option Addr) (g2 g3 fl fc bc nc : Nat) (w : World)
  (hs : f.name.size ≤ maxLen) (hr1 : I64 f.params) (hr2 : I64 f.regs) (hbl : f.blocks.length * 96 ≤ 140737488351232) (hb : SliceAt w 6 (BlkR w) bp f.blocks) (hnl : names.length ≤ 9223372036854775807) (hN : StrsAt w np names) :
  Calls Tryd.prog 35 #[.agg #[.slice g1 g2 g3, .slice fp fl fc, .string f.name, .int .i64 f.params, .int .i64 f.regs, .slice bp f.blocks.length bc, .slice none 0 0], .slice np names.length nc] w fun e w' => e = .returned (.int .i64 (headE names f)) ∧ Below w.heap.size w w' := by
 have HB := hidI hb
 have HN := hidI hN
 obtain ⟨hp1, hp2⟩ := hr1
 obtain ⟨hp3, hp4⟩ := hr2
 clear hb hN
 go_enter Tryd.func35, Tryd.ntmps35
 go_wp2
 go_loopw [5, 12] (fun m i wr => ∃ (k : Nat) (x : Int), k ≤ f.blocks.length ∧ i = .int .i64 k ∧ m = .int .i64 x ∧ (f.blocks.length ≤ 40 → x = manyTo f k ∧ manyTo f k ≤ k * 10000000000000) ∧ Below (w.heap.size + 1) (w.alloc (.cells #[.slice g1 g2 g3, .slice fp fl fc, .string f.name, .int .i64 f.params, .int .i64 f.regs, .slice bp f.blocks.length bc, .slice none 0 0] 96)) wr) (fun _ i _ => f.blocks.length - (intOf i).toNat)
 case atStart => exact ⟨0, 0, by omega, rfl, rfl, fun _ => by simp [manyTo], Below.refl _ _⟩
 case round =>
  obtain ⟨k, x, hk, rfl, rfl, hV, hb⟩ := hrel
  have HV := hidI hV
  have HBw := hidI hb
  have HBx : Hid (Below w.heap.size w wr) := ((Below.refl _ _).alloc (Nat.le_refl _) _).trans (hb.mono (by omega))
  have hz : w.heap.size < wr.heap.size := by have := hb.size; simp at this; omega
  obtain ⟨hcc, hcf⟩ := blk (heap_below hb (by omega) (heap_here w _))
  clear hV hb
  by_cases hlt : k < f.blocks.length
  ·obtain ⟨b2, o2, q1, c1, q2, c2, q3, c3, hp, e0, e1, e2, e3, e4, e5, _, _, hl1, hl2, _, _, _, _⟩ := blkGet HB.out HBx.out hlt
   subst hp
   go_wp2
   refine ⟨⟨k + 1, _, by omega, by go_num, rfl, fun h40 => ?_, HBw.out.alloc (by omega) _⟩, by simp [intOf]; omega⟩
   obtain ⟨h1, h2⟩ := HV.out h40
   rw [manyTo_succ f k hlt]
   refine ⟨?_, by omega⟩
   rw [IntWalk.wrap64_in _ ⟨by omega, by omega⟩, h1]
   omega
  ·have HM : Hid (f.blocks.length ≤ 40 → x = manyL f) := by
    intro h
    have := (HV.out h).1
    rw [show k = f.blocks.length by omega, manyTo_all] at this
    exact this
   clear HV
   have HW := hidI (HN.out)
   cases hnb : nameB f.name
   ·have HE : Hid (headE names f = 12) := by show _ = _; unfold headE; rw [if_pos hnb]
    go_wp2_with (go_at_call 32; refine (name_any _ _ hs).mono ?_; rintro e w1 ⟨rfl, rfl⟩)
    go_ret
    exact ⟨by rw [HE.out]; rfl, HBx.out⟩
   cases hhb : hasB names f.name
   rotate_left
   ·have HE : Hid (headE names f = 7) := by show _ = _; unfold headE; rw [if_neg (by simp [hnb]), if_pos hhb]
    go_wp2_with (first | (go_at_call 32; refine (name_any _ _ hs).mono ?_; rintro e w1 ⟨rfl, rfl⟩) | (go_at_call 33; refine (contains_str _ _ _ _ _ hnl (strs_below HW.out HBx.out)).mono ?_; rintro e w1 ⟨rfl, rfl⟩))
    go_ret
    exact ⟨by rw [HE.out]; rfl, HBx.out⟩
   have HE1 : Hid (headE names f = if ¬(0 ≤ f.params ∧ f.params ≤ 6) ∨ ¬(f.params ≤ f.regs ∧ f.regs ≤ 100) then 3 else if ¬(1 ≤ f.blocks.length ∧ f.blocks.length ≤ 40) ∨ 300 < manyL f then 2 else 0) := by show _ = _; unfold headE; rw [if_neg (by simp [hnb]), if_neg (by simp [hhb])]
   go_wp2_with (first | (go_at_call 32; refine (name_any _ _ hs).mono ?_; rintro e w1 ⟨rfl, rfl⟩) | (go_at_call 33; refine (contains_str _ _ _ _ _ hnl (strs_below HW.out HBx.out)).mono ?_; rintro e w1 ⟨rfl, rfl⟩) | (go_at_call 34; refine (within_any _ _ _ _).mono ?_; rintro e w1 ⟨rfl, rfl⟩))
   all_goals
    go_ret
    refine ⟨?_, HBx.out⟩
    rw [HE1.out]
    refine congrArg (fun n => Ending.returned (.int .i64 n)) ?_
    clear HE1 HB HN HW HBw HBx hcc hcf
    have HM2 := HM.out
    clear HM
    simp only [wthn, decide_eq_true_eq, decide_eq_false_iff_not, Bool.not_eq_eq_eq_not, Bool.not_true, Bool.not_false] at *
    first | (rw [if_pos (by omega)]) | (rw [if_neg (by omega), if_pos (by omega)]) | (rw [if_neg (by omega), if_neg (by omega)]) | trace_state
end Go.Proofs.YtdjamkinijhjoaaDoor
namespace Go.Proofs.YtdjamkinijhjoaaDoor
open Go.RowKit

set_option maxHeartbeats 1000000 in
theorem isMain_any (nm : ByteArray) (params regs : Int) (bp : Option Addr) (bl bc : Nat) (w : World) :
  Calls Tryd.prog 38 #[.agg #[.string nm, .int .i64 params, .int .i64 regs, .slice bp bl bc]] w fun e w' => e = .returned (.bool (nm.toList == [109, 97, 105, 110])) ∧ Below w.heap.size w w' := by
 go_enter Tryd.func38, Tryd.ntmps38
 go_wp2
 go_ret
 exact ⟨rfl, by repeat (first | (with_reducible first | exact bR _ _ | exact bH ‹_› | refine bD ?_ | refine bN ?_ _ | refine bS ?_ ?_ _ | refine bA ?_ ?_ _ | refine bT hb3 ?_ ?_ | refine bT hb5 ?_ ?_ | refine bT hb4 ?_ ?_) | omega | (simp; omega) | simp)⟩

def mainI (xs : List FunL) : Option Nat := (List.range xs.length).find? fun i => match xs[i]? with | some f => mainB f | none => false
theorem mainI_hit {xs : List FunL} {k : Nat} (hk : k < xs.length) (h0 : ∀ j (h : j < xs.length), j < k → mainB xs[j] = false) (h : mainB xs[k] = true) : mainI xs = some k := by
 unfold mainI
 refine find_range _ _ _ hk (fun j hj => ?_) ?_
 ·rw [List.getElem?_eq_getElem (by omega)]; exact h0 j (by omega) hj
 ·rw [List.getElem?_eq_getElem hk]; exact h
theorem mainI_none {xs : List FunL} (h0 : ∀ j (h : j < xs.length), mainB xs[j] = false) : mainI xs = none := by
 unfold mainI
 rw [List.find?_eq_none]
 intro i hi
 have hi := List.mem_range.1 hi
 rw [List.getElem?_eq_getElem hi]
 simp [h0 i hi]
def optI (o : Option Nat) : Int := match o with | some k => (k : Int) | none => -1

set_option maxRecDepth 100000 in
set_option maxHeartbeats 1000000 in
theorem indexMain_any (xs : List FunL) (fp : Option Addr) (fc : Nat) (w : World) (hl : xs.length ≤ 9223372036854775807) (hF : SliceAt w 4 (FunR w) fp xs) :
  Calls Tryd.prog 37 #[.slice fp xs.length fc, .func (.func 38) #[] #[]] w fun e w' => e = .returned (.int .i64 (optI (mainI xs))) ∧ Below w.heap.size w w' := by
 have HF := hidI hF
 clear hF
 go_enter Tryd.func37, Tryd.ntmps37
 go_wp2
 go_loopw [8] (fun i wr => ∃ k : Nat, k ≤ xs.length ∧ i = .int .i64 k ∧ (∀ j (h : j < xs.length), j < k → mainB xs[j] = false) ∧ Below w.heap.size w wr) (fun i _ => xs.length - (intOf i).toNat)
 case atStart => exact ⟨0, by omega, rfl, fun j _ h => by omega, Below.refl _ _⟩
 case round =>
  obtain ⟨k, hk, rfl, hV, hb⟩ := hrel
  have HV := hidI hV
  have HBw := hidI hb
  clear hV hb
  by_cases hlt : k < xs.length
  ·obtain ⟨b, o, q, c, hp, e0, e1, e2, e3, _⟩ := funGet HF.out HBw.out hlt
   subst hp
   go_wp2_with fail
   refine (isMain_any _ _ _ _ _ _ _).mono ?_
   rintro e w3 ⟨rfl, hb3⟩
   have HB3 := hidI hb3
   have HE : Hid (mainB xs[k] = (xs[k].name.toList == [109, 97, 105, 110])) := rfl
   clear hb3
   cases hm : (xs[k].name.toList == [109, 97, 105, 110])
   ·have HM : Hid (mainB xs[k] = false) := HE.out.trans hm
    clear hm
    go_wp2_with fail
    refine ⟨⟨k + 1, by omega, by go_num, fun j hj hjk => ?_, HBw.out.trans (HB3.out.mono HBw.out.size)⟩, by simp [intOf]; omega⟩
    by_cases hj2 : j < k
    ·exact HV.out j hj hj2
    ·obtain rfl : j = k := by omega
     exact HM.out
   ·have HM : Hid (mainB xs[k] = true) := HE.out.trans hm
    clear hm
    go_wp2_with fail
    go_ret
    refine ⟨?_, HBw.out.trans (HB3.out.mono HBw.out.size)⟩
    rw [mainI_hit hlt HV.out HM.out]
    rfl
  ·go_wp2_with fail
   go_ret
   refine ⟨?_, HBw.out⟩
   rw [mainI_none (fun j hj => HV.out j hj (by omega))]
   rfl
end Go.Proofs.YtdjamkinijhjoaaDoor
