/-
  The contract of turneryref5.Clone.
-/
import Derived.WalkKit
import Derived.WalkSpells
import Derived.WalkLawsBesides
import Derived.Test.YtdjamkinijhjoaaDoorJRcB
namespace Go.Proofs.YtdjamkinijhjoaaDoor
open Go.RowKit Go.Shelf

set_option maxRecDepth 100000 in
set_option maxHeartbeats 4000000 in
theorem cloneU_any (u : UniL) (q1 q2 : Option Addr) (e1 e2 : Nat) (w : World) (hG : SlF w 3 48 (GloR w) (.slice q1 u.globals.length e1) u.globals) (hF : SlF w 4 56 (FunR w) (.slice q2 u.funcs.length e2) u.funcs) :
  Calls Tryd.prog 41 #[.agg #[.slice q1 u.globals.length e1, .slice q2 u.funcs.length e2]] w fun e w' => (∃ p1 c1 p2 c2, e = .returned (.agg #[.slice p1 u.globals.length c1, .slice p2 u.funcs.length c2]) ∧
   ∃ S, UniO w' [.slice p1 u.globals.length c1, .slice p2 u.funcs.length c2] u S ∧ LoB w.heap.size S) ∧ Below w.heap.size w w' := by
 obtain ⟨iG, k1, k2, k3, k4⟩ := info_parts infoGloC
 obtain ⟨iF, l1, l2, l3, l4⟩ := info_parts infoFunC
 obtain ⟨iB, j1, j2, j3, j4⟩ := info_parts infoBlkC
 have hlg : u.globals.length * 48 ≤ 140737488351232 := hG.bdC
 have hlf : u.funcs.length * 56 ≤ 140737488351232 := hF.bdC
 have hGs : SliceAt w 3 (GloR w) q1 u.globals := by obtain ⟨_, _, e, _, _, h⟩ := hG.outC; cases e; exact h
 have hFs : SliceAt w 4 (FunR w) q2 u.funcs := by obtain ⟨_, _, e, _, _, h⟩ := hF.outC; cases e; exact h
 have HGs := hidI hGs
 have HFs := hidI hFs
 have HBd := hidI (And.intro hG.bdC hF.bdC)
 clear hG hF hGs hFs
 go_enter Tryd.func41, Tryd.ntmps41
 go_wp2_with fail
 obtain ⟨W0, hW0⟩ : ∃ W0, W0 = ((w.alloc (.cells #[.slice q1 u.globals.length e1, .slice q2 u.funcs.length e2] 25)).alloc (.cells #[.slice none 0 0, .slice none 0 0] 25)).alloc (.cells #[.slice none 0 0, .slice none 0 0] 25) := ⟨_, rfl⟩
 rw [← hW0]
 have hz0 : W0.heap.size = w.heap.size + 1 + 1 + 1 := by rw [hW0]; simp
 have HBW0 : Hid (Below w.heap.size w W0) := hidI (by rw [hW0]; repeat (first | (with_reducible first | exact bR _ _ | exact bH ‹_› | refine bD ?_ | refine bN ?_ _ | refine bS ?_ ?_ _ | refine bA ?_ ?_ _ | refine bT hb3 ?_ ?_ | refine bT hb5 ?_ ?_ | refine bT hb4 ?_ ?_) | omega | (simp; omega) | simp))
 have HPaW0 : Hid (W0.heap[w.heap.size]? = some (.cells #[.slice q1 u.globals.length e1, .slice q2 u.funcs.length e2] 25 (0, 0))) := hidI (by rw [hW0]; exact heap_step (heap_step (heap_at rfl)))
 have HZ : Hid (W0.heap[w.heap.size + 1]? = some (.cells #[.slice none 0 0, .slice none 0 0] 25 (0, 0))) := hidI (by rw [hW0]; exact heap_step (heap_at (by simp)))
 have HO : Hid (W0.heap[w.heap.size + 1 + 1]? = some (.cells #[.slice none 0 0, .slice none 0 0] 25 (0, 0))) := hidI (by rw [hW0]; exact heap_at (by simp))
 clear hW0
 go_loopw [4] (fun i wr => ∃ (k : Nat) (v : Value), k ≤ u.globals.length ∧ i = .int .i64 k ∧ (∃ S, SlO 90 3 GloO wr v (u.globals.take k) S ∧ LoB W0.heap.size S) ∧ wr.heap[w.heap.size + 1 + 1]? = some (.cells #[v, .slice none 0 0] 25 (0, 0)) ∧ Kept (fun k => k = w.heap.size + 1 + 1) W0 wr) (fun i _ => u.globals.length - (intOf i).toNat)
 case atStart => exact ⟨0, .slice none 0 0, by omega, rfl, ⟨fun _ => False, SlO.nil _ _ _ _ (fun _ h => h.elim), fun _ h => h.elim⟩, HO.out, Kept.refl _ _⟩
 case round =>
  obtain ⟨k, v, hk, rfl, ⟨S, hO, hL⟩, hA, hK⟩ := hrel
  obtain ⟨p, c, hv, _⟩ := hO.val
  rw [List.length_take_of_le hk] at hv
  subst hv
  have HO := hidI hO
  have HL := hidI hL
  have HK := hidI hK
  have HA1 := hidI hA
  have hsz := hK.size
  have HBw : Hid (Below w.heap.size w wr) := HBW0.out.trans (hK.below (by omega) (fun _ e => by omega))
  have hPa := (HK.out.block w.heap.size (by omega) (by omega)).trans HPaW0.out
  have pc : wr.cell? ⟨w.heap.size, 0, none⟩ = some (.slice q1 u.globals.length e1) := (blk hPa).1 0
  have pz := ltHeap hPa
  clear hO hL hK hA hPa
  by_cases hlt : k < u.globals.length
  ·obtain ⟨bp, op, cs, hp, _, hc, pv, rfl, hd0, hd, hs⟩ := HGs.out.get hlt
   subst hp
   obtain ⟨qi, di, rfl, hq0, _, hql, hqs⟩ := hs
   have hc0 := hc 0 (by omega)
   have hc1 := hc 1 (by omega)
   have hc2 := hc 2 (by omega)
   have hbp := lt_of_cell hc0
   have x0 := (HBw.out.cell (p := ⟨bp, _, none⟩) hbp).trans hc0
   have x1 := (HBw.out.cell (p := ⟨bp, _, none⟩) hbp).trans hc1
   have x2 := (HBw.out.cell (p := ⟨bp, _, none⟩) hbp).trans hc2
   simp only [List.getElem?_cons_zero, List.getElem?_cons_succ, Nat.add_zero] at x0 x1 x2
   have HQ := hidI (And.intro hq0 (And.intro hql hqs))
   have HD := hidI (And.intro hd0 hd)
   clear hc hc0 hc1 hc2 hq0 hql hqs hd0 hd
   have hoz := ltHeap HA1.out
   have g1 : (0 : Int) ≤ (k : Int) := by omega
   have g2 : (k : Int) < u.globals.length := by omega
   go_wp2_with (at_builtin; refine wpList_copyInts rfl _ _ rfl rfl u.globals[k].init qi di rfl ?hsl HQ.out.1 HQ.out.2.1 ?_)
   case hsl => exact HQ.out.2.2.mono (HBw.out.trans (by repeat (first | (with_reducible first | exact bR _ _ | exact bH ‹_› | refine bD ?_ | refine bN ?_ _ | refine bS ?_ ?_ _ | refine bA ?_ ?_ _ | refine bT hb3 ?_ ?_ | refine bT hb5 ?_ ?_ | refine bT hb4 ?_ ?_) | omega | (simp; omega) | simp))) (by omega) fun _ _ g => g
   intro p' c' w5 S2 hS2 hL2 hb5
   have hr5 : Below wr.heap.size wr w5 := Below.trans (by repeat (first | (with_reducible first | exact bR _ _ | exact bH ‹_› | refine bD ?_ | refine bN ?_ _ | refine bS ?_ ?_ _ | refine bA ?_ ?_ _ | refine bT hb3 ?_ ?_ | refine bT hb5 ?_ ?_ | refine bT hb4 ?_ ?_) | omega | (simp; omega) | simp)) (hb5.mono (by simp))
   have hu := heap_below hb5 (k := wr.heap.size) (by simp) (heap_here wr _)
   obtain ⟨hu0, hu1⟩ := blk hu
   have zu := (Array.getElem?_eq_some_iff.1 hu).1
   have hA5 := heap_below hr5 (k := w.heap.size + 1 + 1) hoz HA1.out
   have ho0 : w5.cell? ⟨w.heap.size + 1 + 1, 0, none⟩ = some (.slice p k c) := (blk hA5).1 0
   have hof := (blk hA5).2
   have zo := ltHeap hA5
   have HA5 := hidI hA5
   have hL2' : ∀ k, S2 k → wr.heap.size + 1 ≤ k := fun k h => by have := hL2 k h; simpa using this
   have HS2 := hidI hS2
   have HL2 := hidI hL2'
   have HR5 := hidI hr5
   have hr5s := hr5.size
   have hne : w.heap.size + 1 + 1 ≠ wr.heap.size := by omega
   have hN5 : ¬ S wr.heap.size := fun h => by have := HO.out.inb _ h; omega
   have hN2 : ¬ S2 wr.heap.size := fun h => by have := HL2.out _ h; omega
   have HO5 := hidI ((HO.out.below locGlo HR5.out).set_alloc locGlo (n := wr.heap.size) (j := 2) hN5 (.slice p' u.globals[k].init.length c') (.cells #[.string u.globals[k].name, .int .i64 u.globals[k].size, .slice p' u.globals[k].init.length c'] 90))
   have HS5 := hidI (HS2.out.set_alloc locInt (n := wr.heap.size) (j := 2) hN2 (.slice p' u.globals[k].init.length c') (.cells #[.string u.globals[k].name, .int .i64 u.globals[k].size, .slice p' u.globals[k].init.length c'] 90))
   have HA8 := hidI (show ((w5.setCell ⟨wr.heap.size, 2, none⟩ (.slice p' u.globals[k].init.length c')).alloc (.cells #[.string u.globals[k].name, .int .i64 u.globals[k].size, .slice p' u.globals[k].init.length c'] 90)).heap[w.heap.size + 1 + 1]? = some (.cells #[.slice p k c, .slice none 0 0] 25 (0, 0)) from
    heap_step ((Go.Deep.blk_setCell_other w5 ⟨wr.heap.size, 2, none⟩ _ (w.heap.size + 1 + 1) hne).trans HA5.out))
   clear hb5 hr5 hu hS2 hL2 hL2' hA5 hN5 hN2
   go_wp2_with (at_builtin; refine wpList_append_slo _ rfl _ _ 22 rfl 90 iG _ 3 48 Tryd.underlying22 k1 k2 k3 k4 rfl (by decide) locGlo rfl HO5.out ⟨w5.heap.size, 0, none⟩ 1 [.string u.globals[k].name, .int .i64 u.globals[k].size, .slice p' u.globals[k].init.length c'] u.globals[k] rfl rfl ?hn ?ho (T := S2) ⟨_, rfl, HD.out.1, HD.out.2, HS5.out⟩ ?ha ?ht ?hm ?hb ?_)
   case hn => exact cells_new _ _ _ (by simp [World.setCell])
   case ho => intro u hu; simp only [List.mem_cons, List.not_mem_nil, or_false] at hu; rcases hu with rfl | rfl | rfl <;> rfl
   case ha => exact fun k h1 h2 => by have := HO.out.inb k h1; have := HL2.out k h2; omega
   case ht => exact HS2.out.sl.inb.set_alloc _ _ _
   case hm => unfold maxLen; simp; omega
   case hb => simp; omega
   intro v2 w8 ⟨S', hO8, hsub, hK8⟩
   obtain ⟨pv, cv, hv2, _⟩ := hO8.val
   have hv3 : v2 = .slice pv (k + 1) cv := by rw [hv2]; congr 1; simp; omega
   clear hv2
   subst hv3
   have hSn : ∀ i, i < W0.heap.size → ¬ S i := fun i hi h => by have := HL.out i h; omega
   have hA9 := (hK8.block (w.heap.size + 1 + 1) (ltHeap HA8.out) (hSn _ (by omega))).trans HA8.out
   have ho0 : w8.cell? ⟨w.heap.size + 1 + 1, 0, none⟩ = some (.slice p k c) := (blk hA9).1 0
   have hof := (blk hA9).2
   have zo := ltHeap hA9
   have hrel : (∃ S, SlO 90 3 GloO (w8.setCell ⟨w.heap.size + 1 + 1, 0, none⟩ (.slice pv (k + 1) cv)) (.slice pv (k + 1) cv) (u.globals.take (k + 1)) S ∧ LoB W0.heap.size S) ∧ (w8.setCell ⟨w.heap.size + 1 + 1, 0, none⟩ (.slice pv (k + 1) cv)).heap[w.heap.size + 1 + 1]? = some (.cells #[.slice pv (k + 1) cv, .slice none 0 0] 25 (0, 0)) ∧ Kept (fun k => k = w.heap.size + 1 + 1) W0 (w8.setCell ⟨w.heap.size + 1 + 1, 0, none⟩ (.slice pv (k + 1) cv)) := by
    have hlo : LoB W0.heap.size S' := fun i hi => by
     rcases hsub i hi with h | h | h
     ·exact HL.out i h
     ·have := HL2.out i h; omega
     ·simp [World.setCell] at h; omega
    refine ⟨⟨S', ?_, hlo⟩, ?_, ?_⟩
    ·have hO9 : SlO 90 3 GloO w8 (.slice pv (k + 1) cv) (u.globals.take (k + 1)) S' := by first | exact hO8 | (rw [List.take_succ_eq_append_getElem hlt]; exact hO8)
     exact hO9.loc locGlo (fun i hi => Go.Deep.blk_setCell_other _ _ _ _ (fun e => by have := hlo i hi; have e2 : i = w.heap.size + 1 + 1 := e; omega)) (by simp [World.setCell])
    ·rw [heap_set hA9 0 _]
     rfl
    ·have kA : Kept (fun k => k = w.heap.size + 1 + 1) W0 ((w5.setCell ⟨wr.heap.size, 2, none⟩ (.slice p' u.globals[k].init.length c')).alloc (.cells #[.string u.globals[k].name, .int .i64 u.globals[k].size, .slice p' u.globals[k].init.length c'] 90)) := HK.out.trans (Kept.of_below (S := fun _ => False) ((HR5.out.setCell (by simp) _).alloc (by simp [World.setCell]; omega) _)) (fun _ _ h => h.elim)
     exact (kA.trans hK8 (fun i hi h => absurd h (hSn i hi))).setCell rfl _
   have HRel := hidI hrel
   clear hA9 hO8 hsub hK8 hrel
   go_wp2_with fail
   exact ⟨⟨k + 1, .slice pv (k + 1) cv, by omega, by go_num, HRel.out.1, HRel.out.2.1, HRel.out.2.2⟩, by simp [intOf]; omega⟩
  ·obtain rfl : k = u.globals.length := by omega
   rw [List.take_length] at HO
   obtain ⟨W1, hW1⟩ : ∃ W1, W1 = wr := ⟨_, rfl⟩
   obtain ⟨S1, hS1⟩ : ∃ S1, S1 = S := ⟨_, rfl⟩
   obtain ⟨p5, hp5⟩ : ∃ p5, p5 = p := ⟨_, rfl⟩
   obtain ⟨c5, hc5⟩ : ∃ c5, c5 = c := ⟨_, rfl⟩
   rw [← hp5, ← hc5] at HO HA1
   clear hp5 hc5
   obtain ⟨vg, hvg⟩ : ∃ vg, vg = Value.slice p5 u.globals.length c5 := ⟨_, rfl⟩
   have HBW1 := hidI HBw.out
   have HPaW1 := hidI ((HK.out.block w.heap.size (by omega) (by omega)).trans HPaW0.out)
   have HOg := hidI HO.out
   have HLg := hidI HL.out
   have HK1 := hidI HK.out
   have HA2 := hidI HA1.out
   have pc2 : wr.cell? ⟨w.heap.size, 1, none⟩ = some (.slice q2 u.funcs.length e2) := (blk HPaW1.out).1 1
   rw [← hS1] at HOg HLg
   go_wp2_with fail
   rw [← hW1]
   rw [← hW1] at HBW1 HPaW1 HOg HK1 HA2 hsz
   rw [← hvg] at HA2
   clear pc2 pc pz HBw HO HL HK HA1 hW1 hS1
   go_loopw [6] (fun i wr => ∃ (k : Nat) (v : Value), k ≤ u.funcs.length ∧ i = .int .i64 k ∧ (∃ S, SlO 37 4 FunO wr v (u.funcs.take k) S ∧ LoB W1.heap.size S) ∧ wr.heap[w.heap.size + 1 + 1]? = some (.cells #[vg, v] 25 (0, 0)) ∧ Kept (fun k => k = w.heap.size + 1 + 1) W1 wr) (fun i _ => u.funcs.length - (intOf i).toNat)
   case atStart => exact ⟨0, .slice none 0 0, by omega, rfl, ⟨fun _ => False, SlO.nil _ _ _ _ (fun _ h => h.elim), fun _ h => h.elim⟩, HA2.out, Kept.refl _ _⟩
   case round =>
    obtain ⟨k, v, hk, rfl, ⟨S, hO, hL⟩, hA, hK⟩ := hrel
    obtain ⟨pf, cf, hv, _⟩ := hO.val
    rw [List.length_take_of_le hk] at hv
    subst hv
    have HO := hidI hO
    have HL := hidI hL
    have HK := hidI hK
    have HA1 := hidI hA
    have hsz1 := hK.size
    have HBw : Hid (Below w.heap.size w wr) := HBW1.out.trans (hK.below (by omega) (fun _ e => by omega))
    have hPa := (HK.out.block w.heap.size (by omega) (by omega)).trans HPaW1.out
    have pc : wr.cell? ⟨w.heap.size, 1, none⟩ = some (.slice q2 u.funcs.length e2) := (blk hPa).1 1
    have pz := ltHeap hPa
    have HPa := hidI hPa
    clear hO hL hK hA hPa
    by_cases hlt : k < u.funcs.length
    ·obtain ⟨bp, op, cs, hp, _, hc, b0, rfl, b3, b4, b5, b6⟩ := HFs.out.get hlt
     subst hp
     obtain ⟨q3, d3', rfl, _, _, hbs⟩ := b6.outC
     have hlb : u.funcs[k].blocks.length * 96 ≤ 140737488351232 := b6.bdC
     have hc0 := hc 0 (by omega)
     have hbp := lt_of_cell hc0
     have hc3 := hc 3 (by omega)
     have x0 := (HBw.out.cell (p := ⟨bp, _, none⟩) hbp).trans hc0
     have x1 := (HBw.out.cell (p := ⟨bp, _, none⟩) hbp).trans (hc 1 (by omega))
     have x2 := (HBw.out.cell (p := ⟨bp, _, none⟩) hbp).trans (hc 2 (by omega))
     have x3 := (HBw.out.cell (p := ⟨bp, _, none⟩) hbp).trans hc3
     simp only [List.getElem?_cons_zero, List.getElem?_cons_succ, Nat.add_zero] at x0 x1 x2 x3 hc3
     have HR := hidI (And.intro b3 (And.intro b4 (And.intro b5 (And.intro b6.bdC hbs))))
     have HC3 := hidI hc3
     have hbpr : bp < wr.heap.size := by have := HBw.out.size; omega
     clear hc hc0 b3 b4 b5 b6 hbs hc3
     have g1 : (0 : Int) ≤ (k : Int) := by omega
     have g2 : (k : Int) < u.funcs.length := by omega
     go_wp2_with fail
     obtain ⟨WI, hWI⟩ : ∃ WI, WI = wr.alloc (.cells #[.string u.funcs[k].name, .int .i64 u.funcs[k].params, .int .i64 u.funcs[k].regs, .slice none 0 0] 37) := ⟨_, rfl⟩
     rw [← hWI]
     have hzI : WI.heap.size = wr.heap.size + 1 := by rw [hWI]; simp
     have HBI : Hid (Below wr.heap.size wr WI) := hidI (by rw [hWI]; repeat (first | (with_reducible first | exact bR _ _ | exact bH ‹_› | refine bD ?_ | refine bN ?_ _ | refine bS ?_ ?_ _ | refine bA ?_ ?_ _ | refine bT hb3 ?_ ?_ | refine bT hb5 ?_ ?_ | refine bT hb4 ?_ ?_) | omega | (simp; omega) | simp))
     have HXI : Hid (WI.heap[wr.heap.size]? = some (.cells #[.string u.funcs[k].name, .int .i64 u.funcs[k].params, .int .i64 u.funcs[k].regs, .slice none 0 0] 37 (0, 0))) := hidI (by rw [hWI]; exact heap_at rfl)
     clear hWI x0 x1 x2 x3
     obtain ⟨wo, hwo⟩ : ∃ wo : World, wo = wr := ⟨_, rfl⟩
     subst hwo
     go_loopw [8] (fun i wr => ∃ (l : Nat) (v : Value), l ≤ u.funcs[k].blocks.length ∧ i = .int .i64 l ∧ (∃ S, SlO 50 6 BlkO wr v (u.funcs[k].blocks.take l) S ∧ LoB WI.heap.size S) ∧ wr.heap[wo.heap.size]? = some (.cells #[.string u.funcs[k].name, .int .i64 u.funcs[k].params, .int .i64 u.funcs[k].regs, v] 37 (0, 0)) ∧ Kept (fun b => b = wo.heap.size) WI wr) (fun i _ => u.funcs[k].blocks.length - (intOf i).toNat)
     case atStart => exact ⟨0, .slice none 0 0, by omega, rfl, ⟨fun _ => False, SlO.nil _ _ _ _ (fun _ h => h.elim), fun _ h => h.elim⟩, HXI.out, Kept.refl _ _⟩
     case round =>
      obtain ⟨l, v, hl, rfl, ⟨SB, hOB, hLB⟩, hXB, hKB⟩ := hrel
      obtain ⟨pb, cb, hv, _⟩ := hOB.val
      rw [List.length_take_of_le hl] at hv
      subst hv
      have HOB := hidI hOB
      have HLB := hidI hLB
      have HXB := hidI hXB
      have HKB := hidI hKB
      have hszB := hKB.size
      have hBwi : Below w.heap.size w wr := (HBw.out.trans (HBI.out.mono (by have := HBw.out.size; omega))).trans (hKB.below (by have := HBw.out.size; omega) (fun _ e => by omega))
      have HBwi := hidI hBwi
      have hPi := (HKB.out.block w.heap.size (by omega) (by omega)).trans ((HBI.out.block w.heap.size pz).trans HPa.out)
      have HPi := hidI hPi
      have pci : wr.cell? ⟨w.heap.size, 1, none⟩ = some (.slice (some ⟨bp, op, none⟩) u.funcs.length e2) := (blk hPi).1 1
      have pzi := ltHeap hPi
      have x3 := (HBwi.out.cell (p := ⟨bp, op + k * 4 + 3, none⟩) hbp).trans HC3.out
      have hbpi : bp < wr.heap.size := by have := hBwi.size; omega
      clear hOB hLB hXB hKB hPi hBwi
      by_cases hll : l < u.funcs[k].blocks.length
      ·obtain ⟨bq, oq, cs, hq, _, hc, b0, b1, b2, rfl, b3, b4, b5, b6, b7⟩ := HR.out.2.2.2.2.get hll
       subst hq
       obtain ⟨r1, d1, rfl, _⟩ := b5.outC
       obtain ⟨r2, d2, rfl, _⟩ := b6.outC
       obtain ⟨r3, d3, rfl, _⟩ := b7.outC
       have hc0 := hc 0 (by omega)
       have hbq := lt_of_cell hc0
       have HCB := hidI hc
       have HRB := hidI (And.intro b3 (And.intro b4 (And.intro b5 (And.intro b6 b7))))
       clear hc hc0 b3 b4 b5 b6 b7
       have g3 : (0 : Int) ≤ (l : Int) := by omega
       have g4 : (l : Int) < u.funcs[k].blocks.length := by omega
       go_wp2_with fail
       obtain ⟨Sp, hSp⟩ : ∃ Sp : World → Prop, Sp = fun w' => w'.heap[wo.heap.size]? = some (.cells #[.string u.funcs[k].name, .int .i64 u.funcs[k].params, .int .i64 u.funcs[k].regs, .slice pb l cb] 37 (0, 0)) ∧ w'.heap[w.heap.size]? = some (.cells #[.slice q1 u.globals.length e1, .slice (some ⟨bp, op, none⟩) u.funcs.length e2] 25 (0, 0)) ∧ Below w.heap.size w w' := ⟨_, rfl⟩
       have hSp' : ∀ w', Sp w' → (w'.cell? ⟨wo.heap.size, 3, none⟩ = some (.slice pb l cb)) ∧ w'.cell? ⟨w.heap.size, 1, none⟩ = some (.slice (some ⟨bp, op, none⟩) u.funcs.length e2) ∧ w'.cell? ⟨bp, op + k * 4 + 3, none⟩ = some (.slice (some ⟨bq, oq, none⟩) u.funcs[k].blocks.length d3') ∧ (∀ j, j < 6 → w'.cell? ⟨bq, oq + l * 6 + j, none⟩ = [.slice r1 u.funcs[k].blocks[l].phis.length d1, .slice r2 u.funcs[k].blocks[l].list.length d2, .int .i64 u.funcs[k].blocks[l].fin.kind, .bool u.funcs[k].blocks[l].fin.onr, .int .i64 u.funcs[k].blocks[l].fin.onn, .slice r3 u.funcs[k].blocks[l].fin.to.length d3][j]?) ∧ wo.heap.size < w'.heap.size ∧ w'.frozen? ⟨wo.heap.size, 3, none⟩ = false := fun w' h => by
        rw [hSp] at h
        exact ⟨(blk h.1).1 3, (blk h.2.1).1 1, (h.2.2.cell (p := ⟨bp, _, none⟩) hbp).trans HC3.out, fun j hj => (h.2.2.cell (p := ⟨bq, _, none⟩) hbq).trans (HCB.out j hj), ltHeap h.1, (blk h.1).2 3⟩
       have hSk : ∀ {U : Blks} {x y : World}, Sp x → Kept U x y → (∀ b, U b → w.heap.size < b ∧ b ≠ wo.heap.size) → Sp y := fun {U x y} h hk hU => by
        rw [hSp] at h ⊢
        exact ⟨(hk.block _ (ltHeap h.1) (fun e => (hU _ e).2 rfl)).trans h.1, (hk.block _ (ltHeap h.2.1) (fun e => by have := (hU _ e).1; omega)).trans h.2.1, h.2.2.trans (hk.below h.2.2.size (fun b e => by have := (hU b e).1; omega))⟩
       have hS1' : Sp wr := by
        rw [hSp]
        exact ⟨HXB.out, HPi.out, HBwi.out⟩
       have hS1 : Sp wr.drew := by
        rw [hSp] at hS1' ⊢
        exact ⟨hS1'.1, hS1'.2.1, hS1'.2.2.drew⟩
       refine wp_region_calm (S := Sp) (by kernel_rfl) 15 ?_
       refine takeZ 0 56 (.pointer (some ⟨wo.heap.size, 3, none⟩)) rfl rfl (by kernel_rfl) (by kernel_rfl) (by kernel_rfl) (by kernel_rfl) (fun _ _ _ h => h) (Or.inl ⟨by rfl, fun w' h => ?_⟩) hS1 ?_
       ·obtain ⟨h1, h2, h3, h4, h5, h6⟩ := hSp' w' h
        go_simp
       refine takeZ 1 57 (.slice pb l cb) rfl rfl (by kernel_rfl) (by kernel_rfl) (by kernel_rfl) (by kernel_rfl) (fun _ _ _ h => h) (Or.inl ⟨by rfl, fun w' h => ?_⟩) hS1 ?_
       ·obtain ⟨h1, h2, h3, h4, h5, h6⟩ := hSp' w' h
        go_simp
       refine takeZ 2 58 (.pointer (some ⟨w.heap.size, 1, none⟩)) rfl rfl (by kernel_rfl) (by kernel_rfl) (by kernel_rfl) (by kernel_rfl) (fun _ _ _ h => h) (Or.inl ⟨by rfl, fun w' h => ?_⟩) hS1 ?_
       ·obtain ⟨h1, h2, h3, h4, h5, h6⟩ := hSp' w' h
        go_simp
       refine takeZ 3 59 (.slice (some ⟨bp, op, none⟩) u.funcs.length e2) rfl rfl (by kernel_rfl) (by kernel_rfl) (by kernel_rfl) (by kernel_rfl) (fun _ _ _ h => h) (Or.inl ⟨by rfl, fun w' h => ?_⟩) hS1 ?_
       ·obtain ⟨h1, h2, h3, h4, h5, h6⟩ := hSp' w' h
        go_simp
       refine takeZ 4 60 (.int .i64 k) rfl rfl (by kernel_rfl) (by kernel_rfl) (by kernel_rfl) (by kernel_rfl) (fun _ _ _ h => h) (Or.inl ⟨by rfl, fun w' h => ?_⟩) hS1 ?_
       ·obtain ⟨h1, h2, h3, h4, h5, h6⟩ := hSp' w' h
        go_simp
       refine takeZ 5 61 (.pointer (some ⟨bp, op + k * 4, none⟩)) rfl rfl (by kernel_rfl) (by kernel_rfl) (by kernel_rfl) (by kernel_rfl) (fun _ _ _ h => h) (Or.inl ⟨by rfl, fun w' h => ?_⟩) hS1 ?_
       ·obtain ⟨h1, h2, h3, h4, h5, h6⟩ := hSp' w' h
        go_simp
       refine takeZ 6 62 (.pointer (some ⟨bp, op + k * 4 + 3, none⟩)) rfl rfl (by kernel_rfl) (by kernel_rfl) (by kernel_rfl) (by kernel_rfl) (fun _ _ _ h => h) (Or.inl ⟨by rfl, fun w' h => ?_⟩) hS1 ?_
       ·obtain ⟨h1, h2, h3, h4, h5, h6⟩ := hSp' w' h
        go_simp
       refine takeZ 7 63 (.slice (some ⟨bq, oq, none⟩) u.funcs[k].blocks.length d3') rfl rfl (by kernel_rfl) (by kernel_rfl) (by kernel_rfl) (by kernel_rfl) (fun _ _ _ h => h) (Or.inl ⟨by rfl, fun w' h => ?_⟩) hS1 ?_
       ·obtain ⟨h1, h2, h3, h4, h5, h6⟩ := hSp' w' h
        go_simp
       refine takeZ 8 64 (.int .i64 l) rfl rfl (by kernel_rfl) (by kernel_rfl) (by kernel_rfl) (by kernel_rfl) (fun _ _ _ h => h) (Or.inl ⟨by rfl, fun w' h => ?_⟩) hS1 ?_
       ·obtain ⟨h1, h2, h3, h4, h5, h6⟩ := hSp' w' h
        go_simp
       refine takeZ 9 65 (.pointer (some ⟨bq, oq + l * 6, none⟩)) rfl rfl (by kernel_rfl) (by kernel_rfl) (by kernel_rfl) (by kernel_rfl) (fun _ _ _ h => h) (Or.inl ⟨by rfl, fun w' h => ?_⟩) hS1 ?_
       ·obtain ⟨h1, h2, h3, h4, h5, h6⟩ := hSp' w' h
        go_simp
       refine takeZ 10 66 (.agg #[.slice r1 u.funcs[k].blocks[l].phis.length d1, .slice r2 u.funcs[k].blocks[l].list.length d2, .int .i64 u.funcs[k].blocks[l].fin.kind, .bool u.funcs[k].blocks[l].fin.onr, .int .i64 u.funcs[k].blocks[l].fin.onn, .slice r3 u.funcs[k].blocks[l].fin.to.length d3]) rfl rfl (by kernel_rfl) (by kernel_rfl) (by kernel_rfl) (by kernel_rfl) (fun _ _ _ h => h) (Or.inl ⟨by rfl, fun w' h => ?_⟩) hS1 ?_
       ·obtain ⟨h1, h2, h3, h4, h5, h6⟩ := hSp' w' h
        have y0 := h4 0 (by omega)
        have y1 := h4 1 (by omega)
        have y2 := h4 2 (by omega)
        have y3 := h4 3 (by omega)
        have y4 := h4 4 (by omega)
        have y5 := h4 5 (by omega)
        simp only [List.getElem?_cons_zero, List.getElem?_cons_succ, Nat.add_zero] at y0 y1 y2 y3 y4 y5
        go_simp
       have hw1 : Below w.heap.size w wr.drew := HBwi.out.drew
       refine stepZ_1 (i := 11) (by kernel_rfl) (stepZ_callTo 67 rfl rfl rfl (by go_simp) (cloneBlk_any u.funcs[k].blocks[l] r1 r2 r3 d1 d2 d3 wr.drew (HRB.out.2.2.1.mono hw1 (by omega) fun _ _ g => g.below hw1) (HRB.out.2.2.2.1.mono hw1 (by omega) fun _ _ g => g.below hw1) (HRB.out.2.2.2.2.mono hw1 (by omega) fun _ _ g => g) HRB.out.1 HRB.out.2.1) ?_)
       rintro e w2 ⟨⟨p1, m1, p2, m2, p3, m3, rfl, T0, hT0, hTl0⟩, hb2⟩
       obtain ⟨T, hT, hTi, hTs⟩ := hT0.tight
       have hTl : ∀ b, T b → wr.heap.size ≤ b := fun b h => hTl0 b (hTs b h)
       clear hT0 hTl0 hTs
       have hb2 : Below wr.heap.size wr w2 := (Below.refl _ wr).drew.trans hb2
       have hS2 : Sp w2 := hSk (x := wr) hS1' (Kept.of_below (S := fun _ => False) hb2) (fun _ h => h.elim)
       refine ⟨_, rfl, hS2, ?_⟩
       have HO2 := hidI (HOB.out.below locBlk hb2)
       have hz2 := hb2.size
       have HT2 := hidI hT
       have HTl := hidI hTl
       have HTi := hidI hTi
       have HB2 := hidI hb2
       clear hT hTl hTi hb2
       have hS3 : Sp (w2.alloc (.cells #[.slice p1 u.funcs[k].blocks[l].phis.length m1, .slice p2 u.funcs[k].blocks[l].list.length m2, .int .i64 u.funcs[k].blocks[l].fin.kind, .bool u.funcs[k].blocks[l].fin.onr, .int .i64 u.funcs[k].blocks[l].fin.onn, .slice p3 u.funcs[k].blocks[l].fin.to.length m3] 50)) := hSk hS2 ((Kept.refl (fun _ => False) _).alloc _) (fun _ h => h.elim)
       refine stepZ_1 (i := 12) (by kernel_rfl) (stepZ_to 68 (.slice (some ⟨w2.heap.size, 0, none⟩) 1 1) (w2.alloc (.cells #[.slice p1 u.funcs[k].blocks[l].phis.length m1, .slice p2 u.funcs[k].blocks[l].list.length m2, .int .i64 u.funcs[k].blocks[l].fin.kind, .bool u.funcs[k].blocks[l].fin.onr, .int .i64 u.funcs[k].blocks[l].fin.onn, .slice p3 u.funcs[k].blocks[l].fin.to.length m3] 50)) rfl rfl rfl (by go_simp) hS3 ?_)
       refine stepZ_1 (i := 13) (by kernel_rfl) (stepZ_append 69 _ _ 35 rfl rfl rfl rfl 50 iB _ 6 96 Tryd.underlying35 j1 j2 j3 j4 rfl (by decide) locBlk (v := .slice pb l cb) (by go_simp) (HO2.out.below locBlk ((Below.refl _ _).alloc (Nat.le_refl _) _)) ⟨w2.heap.size, 0, none⟩ 1 [.slice p1 u.funcs[k].blocks[l].phis.length m1, .slice p2 u.funcs[k].blocks[l].list.length m2, .int .i64 u.funcs[k].blocks[l].fin.kind, .bool u.funcs[k].blocks[l].fin.onr, .int .i64 u.funcs[k].blocks[l].fin.onn, .slice p3 u.funcs[k].blocks[l].fin.to.length m3] u.funcs[k].blocks[l] (by go_simp) rfl ?hn ?ho (T := T) ?hy ?ha ?ht ?hm ?hb ?_)
       case hn => exact cells_new _ _ _ rfl
       case ho => intro u hu; simp only [List.mem_cons, List.not_mem_nil, or_false] at hu; rcases hu with rfl | rfl | rfl | rfl | rfl | rfl <;> rfl
       case hy => exact locBlk _ _ _ _ _ HT2.out (fun k hk => Below.heap_alloc _ _ k (HTi.out k hk)) (by simp)
       case ha => exact fun b h1 h2 => by have := HOB.out.inb b h1; have := HTl.out b h2; omega
       case ht => exact HTi.out.mono (by simp)
       case hm => unfold maxLen; simp; omega
       case hb => simp; omega
       intro v2 w4 ⟨S', hO4, hsub, hK4⟩
       obtain ⟨pv, cv, hv2, _⟩ := hO4.val
       have hv3 : v2 = .slice pv (l + 1) cv := by rw [hv2]; congr 1; simp; omega
       clear hv2
       subst hv3
       have hSBn : ∀ b, SB b → w.heap.size < b ∧ b ≠ wo.heap.size := fun b h => by have := HLB.out b h; omega
       have hS4 : Sp w4 := hSk hS3 hK4 hSBn
       refine ⟨hS4, ?_⟩
       refine takeZ 14 70 (.pointer (some ⟨wo.heap.size, 3, none⟩)) rfl rfl (by kernel_rfl) (by kernel_rfl) (by kernel_rfl) (by kernel_rfl) (fun _ _ _ h => h) (Or.inl ⟨by rfl, fun w' h => ?_⟩) hS4 ?_
       ·obtain ⟨h1, h2, h3, h4, h5, h6⟩ := hSp' w' h
        go_simp
       obtain ⟨h1, h2, h3, h4, h5, h6⟩ := hSp' w4 hS4
       clear h2 h3 h4
       refine stepZ_1 (i := 15) (by kernel_rfl) (stepZ_skipNo (w4.setCell ⟨wo.heap.size, 3, none⟩ (.slice pv (l + 1) cv)) rfl rfl rfl (by go_simp) (fun h => absurd rfl h) (wpAnyZ_done (by kernel_rfl) ?_ _))
       show Exit.inBlock 5 _ Exit.normal _ _
       have hrel : (∃ S, SlO 50 6 BlkO (w4.setCell ⟨wo.heap.size, 3, none⟩ (.slice pv (l + 1) cv)) (.slice pv (l + 1) cv) (u.funcs[k].blocks.take (l + 1)) S ∧ LoB WI.heap.size S) ∧ (w4.setCell ⟨wo.heap.size, 3, none⟩ (.slice pv (l + 1) cv)).heap[wo.heap.size]? = some (.cells #[.string u.funcs[k].name, .int .i64 u.funcs[k].params, .int .i64 u.funcs[k].regs, .slice pv (l + 1) cv] 37 (0, 0)) ∧ Kept (fun b => b = wo.heap.size) WI (w4.setCell ⟨wo.heap.size, 3, none⟩ (.slice pv (l + 1) cv)) := by
        have hlo : LoB WI.heap.size S' := fun i hi => by
         rcases hsub i hi with h | h | h
         ·exact HLB.out i h
         ·have := HTl.out i h; omega
         ·simp at h; omega
        have e4 : w4.heap[wo.heap.size]? = some (.cells #[.string u.funcs[k].name, .int .i64 u.funcs[k].params, .int .i64 u.funcs[k].regs, .slice pb l cb] 37 (0, 0)) := by
         rw [hSp] at hS4
         exact hS4.1
        refine ⟨⟨S', ?_, hlo⟩, ?_, ?_⟩
        ·have hO9 : SlO 50 6 BlkO w4 (.slice pv (l + 1) cv) (u.funcs[k].blocks.take (l + 1)) S' := by first | exact hO4 | (rw [List.take_succ_eq_append_getElem hll]; exact hO4)
         exact hO9.loc locBlk (fun i hi => Go.Deep.blk_setCell_other _ _ _ _ (fun e => by have := hlo i hi; have e2 : i = wo.heap.size := e; omega)) (by simp [World.setCell])
        ·rw [heap_set e4 3 _]
         rfl
        ·have kA : Kept (fun b => b = wo.heap.size) WI w2 := HKB.out.trans (Kept.of_below (S := fun _ => False) HB2.out) (fun _ _ h => h.elim)
         exact ((kA.alloc _).trans hK4 (fun i hi h => by have := HLB.out i h; omega)).setCell rfl _
       have HRel := hidI hrel
       clear hrel hS4 h1 h5 h6 hO4 hsub hK4 hS3 hS2 hS1 hS1' hSk hSp' hSp
       go_wp2_with fail
       exact ⟨⟨l + 1, .slice pv (l + 1) cv, by omega, by go_num, HRel.out.1, HRel.out.2.1, HRel.out.2.2⟩, by simp [intOf]; omega⟩
      ·obtain rfl : l = u.funcs[k].blocks.length := by omega
       rw [List.take_length] at HOB
       have hO8 := (HKB.out.block (w.heap.size + 1 + 1) (by omega) (by omega)).trans ((HBI.out.block (w.heap.size + 1 + 1) (by omega)).trans HA1.out)
       have o1 : wr.cell? ⟨w.heap.size + 1 + 1, 1, none⟩ = some (.slice pf k cf) := (blk hO8).1 1
       have oz := ltHeap hO8
       have y0 : wr.cell? ⟨wo.heap.size, 0, none⟩ = some (.string u.funcs[k].name) := (blk HXB.out).1 0
       have y1 : wr.cell? ⟨wo.heap.size, 1, none⟩ = some (.int .i64 u.funcs[k].params) := (blk HXB.out).1 1
       have y2 : wr.cell? ⟨wo.heap.size, 2, none⟩ = some (.int .i64 u.funcs[k].regs) := (blk HXB.out).1 2
       have y3 : wr.cell? ⟨wo.heap.size, 3, none⟩ = some (.slice pb u.funcs[k].blocks.length cb) := (blk HXB.out).1 3
       have hO8 := hidI hO8
       have hBow : Below wo.heap.size wo wr := HBI.out.trans (HKB.out.below (by omega) (fun _ e => by omega))
       have HBow := hidI hBow
       clear hBow
       go_wp2_with (at_builtin; refine wpList_append_slo _ rfl _ _ 23 rfl 37 iF _ 4 56 Tryd.underlying23 l1 l2 l3 l4 rfl (by decide) locFun rfl (S := S) (xs := u.funcs.take k) ?hso ⟨wr.heap.size, 0, none⟩ 1 [.string u.funcs[k].name, .int .i64 u.funcs[k].params, .int .i64 u.funcs[k].regs, .slice pb u.funcs[k].blocks.length cb] u.funcs[k] rfl rfl ?hn ?ho (T := SB) ?hx ?ha ?ht ?hm ?hb ?_)
       case hso => exact (HO.out.below locFun HBow.out).below locFun ((Below.refl _ _).alloc (Nat.le_refl _) _)
       case hn => exact cells_new _ _ _ rfl
       case ho => intro z hz; simp only [List.mem_cons, List.not_mem_nil, or_false] at hz; rcases hz with rfl | rfl | rfl | rfl <;> rfl
       case hx => exact ⟨_, rfl, HR.out.1, HR.out.2.1, HR.out.2.2.1, ⟨HOB.out.below locBlk ((Below.refl _ _).alloc (Nat.le_refl _) _), HR.out.2.2.2.1⟩⟩
       case ha => exact fun b h1 h2 => by have := HO.out.inb b h1; have := HLB.out b h2; omega
       case ht => exact HOB.out.inb.mono (by simp)
       case hm => unfold maxLen; simp; omega
       case hb => simp; omega
       intro v2 w8 ⟨S', hO9, hsub, hK8⟩
       obtain ⟨pv, cv, hv2, _⟩ := hO9.val
       have hv3 : v2 = .slice pv (k + 1) cv := by rw [hv2]; congr 1; simp; omega
       clear hv2
       subst hv3
       have hSn : ∀ i, i < W1.heap.size → ¬ S i := fun i hi h => by have := HL.out i h; omega
       have hA9 := (hK8.block (w.heap.size + 1 + 1) (by simp; omega) (hSn _ (by omega))).trans (heap_step (o := .cells #[.string u.funcs[k].name, .int .i64 u.funcs[k].params, .int .i64 u.funcs[k].regs, .slice pb u.funcs[k].blocks.length cb] 37) hO8.out)
       have ho1 : w8.cell? ⟨w.heap.size + 1 + 1, 1, none⟩ = some (.slice pf k cf) := (blk hA9).1 1
       have hof := (blk hA9).2
       have zo := ltHeap hA9
       have hrel : (∃ S, SlO 37 4 FunO (w8.setCell ⟨w.heap.size + 1 + 1, 1, none⟩ (.slice pv (k + 1) cv)) (.slice pv (k + 1) cv) (u.funcs.take (k + 1)) S ∧ LoB W1.heap.size S) ∧ (w8.setCell ⟨w.heap.size + 1 + 1, 1, none⟩ (.slice pv (k + 1) cv)).heap[w.heap.size + 1 + 1]? = some (.cells #[vg, .slice pv (k + 1) cv] 25 (0, 0)) ∧ Kept (fun k => k = w.heap.size + 1 + 1) W1 (w8.setCell ⟨w.heap.size + 1 + 1, 1, none⟩ (.slice pv (k + 1) cv)) := by
        have hlo : LoB W1.heap.size S' := fun i hi => by
         rcases hsub i hi with h | h | h
         ·exact HL.out i h
         ·have := HLB.out i h; omega
         ·simp at h; omega
        refine ⟨⟨S', ?_, hlo⟩, ?_, ?_⟩
        ·have hO9' : SlO 37 4 FunO w8 (.slice pv (k + 1) cv) (u.funcs.take (k + 1)) S' := by first | exact hO9 | (rw [List.take_succ_eq_append_getElem hlt]; exact hO9)
         exact hO9'.loc locFun (fun i hi => Go.Deep.blk_setCell_other _ _ _ _ (fun e => by have := hlo i hi; have e2 : i = w.heap.size + 1 + 1 := e; omega)) (by simp [World.setCell])
        ·rw [heap_set hA9 1 _]
         rfl
        ·have kA : Kept (fun k => k = w.heap.size + 1 + 1) W1 (wr.alloc (.cells #[.string u.funcs[k].name, .int .i64 u.funcs[k].params, .int .i64 u.funcs[k].regs, .slice pb u.funcs[k].blocks.length cb] 37)) := (HK.out.trans (Kept.of_below (S := fun _ => False) HBow.out) (fun _ _ h => h.elim)).alloc _
         exact (kA.trans hK8 (fun i hi h => absurd h (hSn i hi))).setCell rfl _
       have HRel := hidI hrel
       clear hA9 hO9 hsub hK8 hrel
       go_wp2_with fail
       exact ⟨⟨k + 1, .slice pv (k + 1) cv, by omega, by go_num, HRel.out.1, HRel.out.2.1, HRel.out.2.2⟩, by simp [intOf]; omega⟩
    ·obtain rfl : k = u.funcs.length := by omega
     rw [List.take_length] at HO
     subst hvg
     have r0 : wr.cell? ⟨w.heap.size + 1 + 1, 0, none⟩ = some (.slice p5 u.globals.length c5) := (blk HA1.out).1 0
     have r1 : wr.cell? ⟨w.heap.size + 1 + 1, 1, none⟩ = some (.slice pf u.funcs.length cf) := (blk HA1.out).1 1
     have hZ := (HK.out.block (w.heap.size + 1) (by omega) (by omega)).trans ((HK1.out.block (w.heap.size + 1) (by omega) (by omega)).trans HZ.out)
     have rz0 : wr.cell? ⟨w.heap.size + 1, 0, none⟩ = some (.slice none 0 0) := (blk hZ).1 0
     have rz1 : wr.cell? ⟨w.heap.size + 1, 1, none⟩ = some (.slice none 0 0) := (blk hZ).1 1
     have rf := (blk hZ).2
     have hzl := ltHeap hZ
     go_wp2_with fail
     obtain ⟨WF, hWF⟩ : ∃ WF, WF = (wr.setCell ⟨w.heap.size + 1, 0, none⟩ (.slice p5 u.globals.length c5)).setCell ⟨w.heap.size + 1, 1, none⟩ (.slice pf u.funcs.length cf) := ⟨_, rfl⟩
     rw [← hWF]
     have hF1 : WF.heap[w.heap.size + 1]? = some (.cells #[.slice p5 u.globals.length c5, .slice pf u.funcs.length cf] 25 (0, 0)) := by
      rw [hWF, heap_set (heap_set hZ 0 _) 1 _]
      rfl
     have hFo : ∀ k, k ≠ w.heap.size + 1 → WF.heap[k]? = wr.heap[k]? := fun k h1 => by
      rw [hWF]
      repeat rw [Go.Deep.blk_setCell_other _ _ _ _ (by assumption)]
     have hFs : WF.heap.size = wr.heap.size := by rw [hWF]; simp [World.setCell]
     have hFb : Below w.heap.size w WF := by
      rw [hWF]
      exact (HBw.out.setCell (by simp) _).setCell (by simp) _
     clear hWF
     have k0 := (blk hF1).1 0
     have k1' := (blk hF1).1 1
     have hG := (HOg.out.kept locGlo HK.out (fun i e hi => by have := HLg.out i hi; omega)).loc (w' := WF) locGlo (fun i hi => hFo i (fun e => by have := HLg.out i hi; omega)) (by omega)
     have hF := HO.out.loc (w' := WF) locFun (fun i hi => hFo i (fun e => by have := HL.out i hi; omega)) (by omega)
     refine bodyPost_ret (v := .agg #[.slice p5 u.globals.length c5, .slice pf u.funcs.length cf]) ?_ rfl ⟨⟨p5, c5, pf, cf, rfl, fun k => S1 k ∨ S k, ⟨_, _, S1, S, rfl, ⟨hG, HBd.out.1⟩, ⟨hF, HBd.out.2⟩, fun i h1 h2 => ?_, fun _ h => .inl h, fun _ h => .inr h⟩, fun i hi => ?_⟩, hFb⟩
     ·simp [results, Tryd.results41, go_sem, k0, k1']
     ·have := HOg.out.inb i h1; have := HL.out i h2; omega
     ·rcases hi with h | h
      ·have := HLg.out i h; omega
      ·have := HL.out i h; omega
end Go.Proofs.YtdjamkinijhjoaaDoor
