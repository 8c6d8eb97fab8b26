/-
  The contract of the walker's jump.
  The contracts of the walker's end, ins and step.
-/
import Derived.Deep.RegionWith
import Derived.WalkKit
import Derived.WalkSpells
import Derived.WalkLawsBesides
import Derived.Test.YtdjamkinijhjoaaDoorJRunB
namespace Go.Proofs.YtdjamkinijhjoaaDoor
open Go.RowKit

theorem frames_same {s : StL} {f : FrL} {rest : List FrL} (hs : s.frames = f :: rest) : ({ s with frames := { f with regs := f.regs } :: rest } : StL) = s := by
 cases s
 simp only at hs
 subst hs
 rfl
theorem nextL_at {rs : List Int} {k i : Nat} {ps : List PhiL} (h2 : i < ps.length) (h3 : k < ps[i].src.length) : (nextL rs k ps)[i]? = some (valL rs ps[i].src[k].1 ps[i].src[k].2) := by
 unfold nextL
 rw [List.getElem?_map, List.getElem?_eq_getElem h2]
 simp [List.getD, h3]
theorem quietS {P : Program} {f : FuncId} {args : Array Value} {w : World} {a n : Nat} {v : Value} (h : Calls P f args (w.drewN (a + n)) fun e w' => e = .returned v ∧ w' = w.drewN (a + n)) :
  Calls P f args (w.drewN (a + n)) fun e w'' => e = .returned v ∧ ∃ m, w'' = w.drewN (a + m) := h.mono fun _ _ g => ⟨g.1, n, g.2⟩
set_option maxRecDepth 100000 in
set_option maxHeartbeats 2000000 in
theorem wjump_any {L : Lies} {u : UniL} {w : World} {s : StL} (hu : UOk u) (h : Walks L u w s) (hok : StOk u s) (hst : s.steps ≤ 1000000) (hF : SliceAt L.w0 4 (FunR L.w0) L.fp u.funcs) {f : FrL} {rest : List FrL} (hs : s.frames = f :: rest) {t : Int} (ht : t ∈ (topB u f).fin.to) :
  Calls Tryd.prog 140 #[.pointer (some ⟨L.W, 0, none⟩), .int .i64 t] w fun e w' => e = .returned (.tuple #[]) ∧ Walks L u w' (jumpS u s t.toNat) := by
 obtain ⟨ro, R, iv, ov, fv, h⟩ := h
 obtain ⟨i1, k1, k2, k3, k4⟩ := info_parts infoInt9
 have hf := hok.frs f (by rw [hs]; exact List.mem_cons_self)
 obtain ⟨ht1, ht2, hfrom⟩ := hu.to hf ht
 obtain ⟨q, rfl⟩ := Int.eq_ofNat_of_zero_le (show 0 ≤ t by omega)
 rw [Int.toNat_natCast] at hfrom ⊢
 have hq : q < (fnU u f.fn).blocks.length := by omega
 obtain ⟨_, _, hb1, hb2, _⟩ := hu.fn hf.fn
 have hfn := hf.fn
 have hnf := hu.chk.nf
 obtain ⟨F, cap, hfv, hlen, hcap, hl, c9, cf0, cf1, cf2, cf3, cf4⟩ := h.frm hs
 have HT := hidI (fun W hb => top_any (h.mono (w' := W) hb) hs hfv)
 obtain ⟨fb, fo, bp, bc, hfp, _, _, _, e4, _, _, _, hbl, hB⟩ := funGet hF (Below.refl _ _) hfn
 rw [← fnU_get hfn] at e4 hbl hB
 obtain ⟨bb, bo, pp, pc, _, _, _, _, hbp, b0, _, _, _, _, _, _, _, hpl, _, _, hP, _, _⟩ := blkGet hB (Below.refl _ _) hq
 rw [← blF_get hq] at b0 hpl hP
 replace e4 := (h.below.cell (p := ⟨fb, _, none⟩) (lt_of_cell e4)).trans e4
 replace b0 := (h.below.cell (p := ⟨bb, _, none⟩) (lt_of_cell b0)).trans b0
 subst hbp
 have hbk := blk h.head
 have c1 : w.cell? ⟨L.W, 1, none⟩ = some (.slice L.fp u.funcs.length L.fc) := by rw [hbk.1]; rfl
 have c2 : w.cell? ⟨L.W, 2, none⟩ = some (.slice (some ⟨L.TA, 0, none⟩) u.funcs.length L.ac) := by rw [hbk.1]; rfl
 rw [hfp] at c1
 have ca1 := h.ahd.tab _ hfn
 have ca2 := h.ahd.row _ _ hfn hq
 have hmem : f.block ∈ rowOf (waysL (fnU u f.fn)) q := List.idxOf_lt_length_iff.1 hfrom
 have hown := h.ahd.own _ _ hfn hq
 obtain ⟨g, gcap, cur, hgv, _, _, hgc, hgm, _, _⟩ := hown.2.resolve_left (by rintro ⟨_, h0⟩; have := List.length_pos_of_mem hmem; omega)
 rw [hgv] at ca2 hown
 have HI : Hid (∀ W, Below w.heap.size w W → Calls Tryd.prog 155 #[.slice (some ⟨g, 0, none⟩) (rowOf (waysL (fnU u f.fn)) q).length gcap, .int .i64 f.block] W fun e w' => e = .returned (.int .i64 (fromL (fnU u f.fn) q f.block)) ∧ w' = W) := fun W hb => by
  refine indexI_any _ _ _ _ _ (by unfold maxLen at hgm; omega) (fun i hi => ?_) hmem
  have := hown.cellAt i (by omega)
  rw [List.getElem?_map, List.getElem?_eq_getElem hi] at this
  exact (hb.cell (p := ⟨g, i, none⟩) (lt_of_cell this)).trans this
 have zW := lt_of_cell c1
 have zF := lt_of_cell cf0
 have zTA := lt_of_cell ca1
 have zA := lt_of_cell ca2
 have zf := lt_of_cell e4
 have zb := lt_of_cell b0
 have n0 : (0 : Int) ≤ (q : Int) := by omega
 have n1 : (q : Int) < (fnU u f.fn).blocks.length := by omega
 have n2 : (0 : Int) ≤ (f.fn : Int) := by omega
 have n3 : (f.fn : Int) < u.funcs.length := by omega
 have hNL : (nextL f.regs (fromL (fnU u f.fn) q f.block) (blF (fnU u f.fn) q).phis).length = (blF (fnU u f.fn) q).phis.length := by unfold nextL; rw [List.length_map]
 have hNg : ∀ i (h2 : i < (blF (fnU u f.fn) q).phis.length) (h3 : fromL (fnU u f.fn) q f.block < (blF (fnU u f.fn) q).phis[i].src.length), (nextL f.regs (fromL (fnU u f.fn) q f.block) (blF (fnU u f.fn) q).phis)[i]? = some (valL f.regs (blF (fnU u f.fn) q).phis[i].src[fromL (fnU u f.fn) q f.block].1 (blF (fnU u f.fn) q).phis[i].src[fromL (fnU u f.fn) q f.block].2) := fun i h2 h3 => nextL_at h2 h3
 have hPO : ∀ i (h : i < (blF (fnU u f.fn) q).phis.length), fromL (fnU u f.fn) q f.block < (blF (fnU u f.fn) q).phis[i].src.length ∧ (0 ≤ (blF (fnU u f.fn) q).phis[i].dst ∧ (blF (fnU u f.fn) q).phis[i].dst < f.regs.length) ∧ ∀ v ∈ (blF (fnU u f.fn) q).phis[i].src, ValOk f.regs.length v.1 v.2 := fun i h => by
  have h1 := (hu.phi hfn hq (List.getElem_mem h)).1
  have h2 := hf.regs
  have h3 := h1.dst
  have h4 : (f.regs.length : Int) = (fnU u f.fn).regs := by omega
  rw [h4]
  exact ⟨by rw [h1.len]; exact hfrom, h3, h1.src⟩
 have hJ : jumpS u s q = { s with frames := { f with regs := writeL (blF (fnU u f.fn) q).phis (nextL f.regs (fromL (fnU u f.fn) q f.block) (blF (fnU u f.fn) q).phis) f.regs (blF (fnU u f.fn) q).phis.length, block := q, pos := 0 } :: rest, cnt := bump s.cnt f.fn q } := jumpS_eq hs q
 have htop : topR s = f.regs := by unfold topR; rw [hs]
 have hV : ∀ W, Below w.heap.size w W → ∀ r n, ValOk f.regs.length r n → Calls Tryd.prog 141 #[.pointer (some ⟨L.W, 0, none⟩), .agg #[.bool r, .int .i64 n]] W fun e w' => e = .returned (.int .i64 (valL f.regs r n)) ∧ Below W.heap.size W w' := fun W hb r n hv => by
  have := wval_any (h.mono (w' := W) hb) (by rw [hs]; simp) r n (by rw [htop]; exact hv)
  rw [htop] at this
  exact this
 have hcn := hok.cnt f.fn q
 generalize (blF (fnU u f.fn) q).phis = PS at *
 generalize fromL (fnU u f.fn) q f.block = kk at *
 generalize nextL f.regs kk PS = N at *
 have HNL := hidI hNL
 have HNg := hidI hNg
 have HPO := hidI hPO
 have HJ := hidI hJ
 have HV := hidI hV
 have H := hidI h
 have HOk := hidI hok
 have HP := hidI hP
 have HS := hidI hs
 have HFv := hidI hfv
 have HU := hidI hu
 clear h hok hP hs hfv hu hF hB hown hgv c9 hbk ht hf hmem hfp hNL hNg hPO hJ htop hV hfrom
 go_enter Tryd.func140, Tryd.ntmps140
 go_wp2_with fail
 refine (HT.out _ (by repeat (first | (with_reducible first | exact bR _ _ | exact bH ‹_› | refine bD ?_ | refine bN ?_ _ | refine bS ?_ ?_ _ | refine bA ?_ ?_ _ | refine bT hb3 ?_ ?_ | refine bT hb5 ?_ ?_ | refine bT hb4 ?_ ?_) | omega | (simp; omega) | simp))).mono ?_
 rintro e w1 ⟨rfl, nq, rfl⟩
 go_wp2_with fail
 go_quiet ((go_at_call 155; refine quietS (HI.out _ ?_); repeat (first | (with_reducible first | exact bR _ _ | exact bH ‹_› | refine bD ?_ | refine bN ?_ _ | refine bS ?_ ?_ _ | refine bA ?_ ?_ _ | refine bT hb3 ?_ ?_ | refine bT hb5 ?_ ?_ | refine bT hb4 ?_ ?_) | omega | (simp; omega) | simp)))
 go_wp2_with fail
 go_quiet (fail)
 go_wp2_with fail
 go_loopw [7, 50] (fun v i wr => ∃ m : Nat, m ≤ PS.length ∧ i = .int .i64 m ∧ wr.ownsRow w.heap.size 3 1 v m ((N.take m).map (.int .i64)) ∧ Below w.heap.size w wr) (fun _ i _ => PS.length - (intOf i).toNat)
 case atStart => exact ⟨0, by omega, rfl, by rw [List.take_zero]; exact World.ownsRow_nil _ _ _ _, by repeat (first | (with_reducible first | exact bR _ _ | exact bH ‹_› | refine bD ?_ | refine bN ?_ _ | refine bS ?_ ?_ _ | refine bA ?_ ?_ _ | refine bT hb3 ?_ ?_ | refine bT hb5 ?_ ?_ | refine bT hb4 ?_ ?_) | omega | (simp; omega) | simp)⟩
 case round =>
  obtain ⟨m, hm, rfl, hown, hb⟩ := hrel
  obtain ⟨p, c, hp⟩ := own_slice hown
  subst hp
  have HO := hidI hown
  have HB1 := hidI hb
  by_cases hlt : m < PS.length
  ·obtain ⟨hk1, hd, hsv⟩ := HPO.out m hlt
   obtain ⟨b, o, q', c', hp, d0, d1, _, hsl, hS⟩ := phiGet HP.out (H.out.below.trans (hb.mono H.out.below.size)) hlt
   subst hp
   obtain ⟨b2, o2, hp2, v0, v1, _⟩ := valGet hS (Below.refl _ _) hk1
   subst hp2
   have z1 := lt_of_cell d0
   have z2 := lt_of_cell v0
   have HVm := hidI (fun W (h : Below wr.heap.size wr W) => HV.out W (hb.trans (h.mono hb.size)) _ _ (hsv _ (List.getElem_mem hk1)))
   have HNm := hidI (HNg.out m hlt hk1)
   clear hown hb hS hsv
   go_wp2_with fail
   refine (HVm.out _ (by repeat (first | (with_reducible first | exact bR _ _ | exact bH ‹_› | refine bD ?_ | refine bN ?_ _ | refine bS ?_ ?_ _ | refine bA ?_ ?_ _ | refine bT hb3 ?_ ?_ | refine bT hb5 ?_ ?_ | refine bT hb4 ?_ ?_) | omega | (simp; omega) | simp))).mono ?_
   rintro e w5 ⟨rfl, hb5⟩
   have HB5 : Hid (Below wr.heap.size wr w5) := Below.trans (by repeat (first | (with_reducible first | exact bR _ _ | exact bH ‹_› | refine bD ?_ | refine bN ?_ _ | refine bS ?_ ?_ _ | refine bA ?_ ?_ _ | refine bT hb3 ?_ ?_ | refine bT hb5 ?_ ?_ | refine bT hb4 ?_ ?_) | omega | (simp; omega) | simp)) (hb5.mono (by simp))
   have HO5 := hidI (ownsRow_below' HO.out HB5.out)
   clear hb5
   go_wp2_with (at_builtin; refine wpList_append_own_at _ rfl _ _ 46 rfl w.heap.size 3 i1 (.int .i64 0) 1 8 underInts9 k1 k2 k3 k4 rfl (by decide) _ _ _ rfl (HO5.out.alloc _) ⟨w5.heap.size, 0, none⟩ 1 1 [.int .i64 (valL f.regs PS[m].src[kk].1 PS[m].src[kk].2)] rfl rfl (cell_one_at _ _ _ _ rfl) (by simp [Value.oneCell']) ?_ ?_ ?_ ?_)
   ·unfold maxLen; omega
   ·omega
   ·have := HB1.out.size; have := HB5.out.size; simp; omega
   intro v' w6 hown' hgrow _ _
   obtain ⟨g', cap', rfl⟩ := ownsRow_succ' hown'
   have HO6 : Hid (w6.ownsRow w.heap.size 3 1 (.slice (some ⟨g', 0, none⟩) (m + 1) cap') (m + 1) ((N.take (m + 1)).map (.int .i64))) := by
    show World.ownsRow _ _ _ _ _ _ _
    rw [List.take_add_one, HNm.out, Option.toList_some, List.map_append, List.map_take]
    exact hown'
   have HB6 : Hid (Below w.heap.size w w6) := by
    have h1 := HB1.out.size
    have h2 := HB5.out.size
    refine ((HB1.out.trans (HB5.out.mono h1)).alloc (by omega) _).grown hgrow (by simp; omega) (fun x e => (HO.out.lt x e).1)
   clear hown' hgrow
   go_wp2_with fail
   exact ⟨⟨m + 1, by omega, by go_num, HO6.out, HB6.out⟩, by simp [intOf]; omega⟩
  ·obtain rfl : m = PS.length := by omega
   have HON : Hid (wr.ownsRow w.heap.size 3 1 (.slice p PS.length c) PS.length (N.map (.int .i64))) := by
    show World.ownsRow _ _ _ _ _ _ _
    have := HO.out
    rw [← HNL.out, List.take_length, HNL.out] at this
    exact this
   have HWr := hidI (H.out.mono hb)
   have HRz : R rest.length < w.heap.size := (H.out.reg HS.out).lt
   clear hown hb HO
   go_wp2_with fail
   go_loopw [67] (fun i wq => ∃ m : Nat, m ≤ PS.length ∧ i = .int .i64 m ∧ WalkR L u wq ro R iv ov fv { s with frames := { f with regs := writeL PS N f.regs m } :: rest } ∧ wq.ownsRow w.heap.size 3 1 (.slice p PS.length c) PS.length (N.map (.int .i64)) ∧ w.heap.size ≤ wq.heap.size) (fun i _ => PS.length - (intOf i).toNat)
   case atStart => exact ⟨0, by omega, rfl, by show WalkR L u wr ro R iv ov fv { s with frames := { f with regs := f.regs } :: rest }; rw [frames_same HS.out]; exact HWr.out, HON.out, HB1.out.size⟩
   case round =>
    obtain ⟨m, hm, rfl, hW, hO, hsz⟩ := hrel
    by_cases hlt : m < PS.length
    ·obtain ⟨_, hd, _⟩ := HPO.out m hlt
     obtain ⟨b, o, q', c', hp, d0, d1, _, _, _⟩ := phiGet HP.out hW.below hlt
     subst hp
     obtain ⟨F2, cap2, hfv2, _, _, _, _, x0, _, _, x3, _⟩ := hW.frm rfl
     have hfv3 := HFv.out
     rw [hfv2] at hfv3
     simp only [Value.slice.injEq, Option.some.injEq, Addr.mk.injEq, and_true] at hfv3
     obtain ⟨rfl, _⟩ := hfv3
     have hreg := hW.reg rfl
     have hwl := writeL_len PS N f.regs m
     rw [hwl] at x3 hreg
     have hNm : m < N.length := by rw [HNL.out]; exact hlt
     obtain ⟨gn, rfl, hgl, hgz, n3⟩ := own_cell hO hlt
     rw [List.getElem?_map, List.getElem?_eq_getElem hNm, Option.map_some] at n3
     obtain ⟨d, hde⟩ := Int.eq_ofNat_of_zero_le hd.1
     rw [hde] at d0 hd
     have hdl : d < f.regs.length := by omega
     have y1 := hreg.cell hdl
     have y2 := hreg.frozen d
     have zr := hreg.lt
     have zF2 := lt_of_cell x3
     have zd := lt_of_cell d0
     have g5 : (0 : Int) ≤ (d : Int) := by omega
     have g6 : (d : Int) < f.regs.length := by omega
     have HWq := hidI hW
     have HOq := hidI hO
     have HDe := hidI hde
     have HNm := hidI hNm
     have HWl := hidI hwl
     generalize hNx : N[m] = x at n3
     have HNx := hidI hNx
     clear hW hO hde hNm hNx hreg hwl hd hfv2 x0 cf0 cf1 cf2 cf3 cf4 b0 c1 c2 ca1 ca2 e4
     go_wp2_with fail
     go_region
     go_wp2_with fail
     have hS : WalkR L u (wr.setCell ⟨R rest.length, d, none⟩ (.int .i64 x)) ro R iv ov fv { s with frames := { f with regs := (writeL PS N f.regs m).set d x } :: rest } :=
      HWq.out.setReg rfl (by show d < (writeL PS N f.regs m).length; rw [HWl.out]; exact hdl) x
     have hwr : writeL PS N f.regs (m + 1) = (writeL PS N f.regs m).set d x := by
      rw [writeL]
      have e1 : ((PS.map fun p : PhiL => p.dst).getD m 0).toNat = d := by simp [List.getD, hlt, HDe.out]
      have e2 : N.getD m 0 = x := by have h1 := HNm.out; simp only [List.getD, List.getElem?_eq_getElem h1, Option.getD_some]; exact HNx.out
      rw [e1, e2]
     refine ⟨⟨m + 1, by omega, by go_num, ?_, ?_, ?_⟩, by simp [intOf]; omega⟩
     ·rw [hwr]
      exact hS.mono (by repeat (first | (with_reducible first | exact bR _ _ | exact bH ‹_› | refine bD ?_ | refine bN ?_ _ | refine bS ?_ ?_ _ | refine bA ?_ ?_ _ | refine bT hb3 ?_ ?_ | refine bT hb5 ?_ ?_ | refine bT hb4 ?_ ?_) | omega | (simp; omega) | simp))
     ·exact ownsRow_below' (keep_own HOq.out (grown_set wr ⟨R rest.length, d, none⟩ (.int .i64 x)) (fun y e e2 => by cases e; cases e2; have := HRz; omega)) (by repeat (first | (with_reducible first | exact bR _ _ | exact bH ‹_› | refine bD ?_ | refine bN ?_ _ | refine bS ?_ ?_ _ | refine bA ?_ ?_ _ | refine bT hb3 ?_ ?_ | refine bT hb5 ?_ ?_ | refine bT hb4 ?_ ?_) | omega | (simp; omega) | simp))
     ·have : (wr.setCell ⟨R rest.length, d, none⟩ (.int .i64 x)).heap.size = wr.heap.size := by simp [World.setCell]
      simp
      omega
    ·obtain rfl : m = PS.length := by omega
     have HWq := hidI hW
     clear hW hO cf0 cf1 cf2 cf3 cf4 b0 c1 c2 ca1 ca2 e4
     obtain ⟨F2, cap2, hfv2, _, _, _, _, x0, x1, x2, x3, _⟩ := HWq.out.frm rfl
     have hfv3 := HFv.out
     rw [hfv2] at hfv3
     simp only [Value.slice.injEq, Option.some.injEq, Addr.mk.injEq, and_true] at hfv3
     obtain ⟨rfl, _⟩ := hfv3
     have hz1 := HWq.out.frmZ hfv2
     have w1 := HWq.out.setFr (f' := { f with regs := writeL PS N f.regs PS.length, block := q }) rfl hfv2 (frCells_set1 R _ rest q) rfl
     have hz2 := w1.frmZ hfv2
     have w2 := w1.setFr (f' := { f with regs := writeL PS N f.regs PS.length, block := q, pos := 0 }) rfl hfv2 (frCells_set2 R _ rest 0) rfl
     have y1 := hz1 (rest.length * 5 + 1)
     have y2 := hz2 (rest.length * 5 + 2)
     have HW2 := hidI w2
     have zF2 := lt_of_cell x0
     clear hz1 w1 hz2 w2 x0 x3 hfv2
     go_wp2_with fail
     obtain ⟨W, hW⟩ : ∃ W, W = (wr.setCell ⟨F2, rest.length * 5 + 1, none⟩ (.int .i64 q)).setCell ⟨F2, rest.length * 5 + 2, none⟩ (.int .i64 0) := ⟨_, rfl⟩
     rw [← hW]
     have HW3 : Hid (WalkR L u W ro R iv ov fv { s with frames := { f with regs := writeL PS N f.regs PS.length, block := q, pos := 0 } :: rest }) := by rw [hW]; exact HW2.out
     clear hW HW2 y1 y2 x1 x2 zF2
     obtain ⟨F3, cap3, hfv4, _, _, _, _, a0, _⟩ := HW3.out.frm rfl
     have hfv5 := HFv.out
     rw [hfv4] at hfv5
     simp only [Value.slice.injEq, Option.some.injEq, Addr.mk.injEq, and_true] at hfv5
     obtain ⟨rfl, _⟩ := hfv5
     have a10 : W.cell? ⟨L.W, 10, none⟩ = some (.slice (some ⟨L.CT, 0, none⟩) u.funcs.length L.cc) := by rw [(blk HW3.out.head).1]; rfl
     have aT := HW3.out.cntT _ hfn
     have hr := HW3.out.cntR _ hfn
     have aC := hr.cell hq
     have aF := hr.frozen q
     have t1 := lt_of_cell a0
     have t2 := lt_of_cell a10
     have t3 := lt_of_cell aT
     have t4 := hr.lt
     have HC : Hid (WalkR L u (W.setCell ⟨L.C f.fn, q, none⟩ (.int .i64 (s.cnt f.fn q + 1))) ro R iv ov fv { s with frames := { f with regs := writeL PS N f.regs PS.length, block := q, pos := 0 } :: rest, cnt := bump s.cnt f.fn q }) := HW3.out.setCnt hfn _ rfl
     clear hfv4 hr HW3
     go_region
     go_wp2_with fail
     go_end0
     refine ⟨rfl, ?_⟩
     rw [HJ.out]
     exact (HC.out.mono (by repeat (first | (with_reducible first | exact bR _ _ | exact bH ‹_› | refine bD ?_ | refine bN ?_ _ | refine bS ?_ ?_ _ | refine bA ?_ ?_ _ | refine bT hb3 ?_ ?_ | refine bT hb5 ?_ ?_ | refine bT hb4 ?_ ?_) | omega | (simp; omega) | simp))).walks
end Go.Proofs.YtdjamkinijhjoaaDoor
namespace Go.Proofs.YtdjamkinijhjoaaDoor
open Go.RowKit

theorem Walks.mono {L : Lies} {u : UniL} {w w' : World} {s : StL} (h : Walks L u w s) (hb : Below w.heap.size w w') : Walks L u w' s := by
 obtain ⟨ro, R, iv, ov, fv, h⟩ := h
 exact (h.mono hb).walks
theorem Walks.val {L : Lies} {u : UniL} {w : World} {s : StL} (h : Walks L u w s) (hne : s.frames ≠ []) (r : Bool) (n : Int) (hv : ValOk (topR s).length r n) :
  Calls Tryd.prog 141 #[.pointer (some ⟨L.W, 0, none⟩), .agg #[.bool r, .int .i64 n]] w fun e w' => e = .returned (.int .i64 (valL (topR s) r n)) ∧ Below w.heap.size w w' := by
 obtain ⟨ro, R, iv, ov, fv, h⟩ := h
 exact wval_any h hne r n hv
theorem Walks.set {L : Lies} {u : UniL} {w : World} {s : StL} (h : Walks L u w s) (hne : s.frames ≠ []) (dst n : Int) (hd : dst < (topR s).length ∨ dst < 0) :
  Calls Tryd.prog 142 #[.pointer (some ⟨L.W, 0, none⟩), .int .i64 dst, .int .i64 n] w fun e w' => e = .returned (.tuple #[]) ∧ Walks L u w' (putS s dst n) := by
 obtain ⟨ro, R, iv, ov, fv, h⟩ := h
 exact (wset_any h hne dst n hd).mono fun e w' g => ⟨g.1, g.2.walks⟩
theorem Walks.stop {L : Lies} {u : UniL} {w : World} {s : StL} (h : Walks L u w s) (n : Int) :
  Calls Tryd.prog 83 #[.pointer (some ⟨L.W, 0, none⟩), .int .i64 n] w fun e w' => e = .returned (.bool false) ∧ Walks L u w' { s with state := n } := by
 obtain ⟨ro, R, iv, ov, fv, h⟩ := h
 exact (wstop_any h n).mono fun e w' g => ⟨g.1, g.2.walks⟩

set_option maxRecDepth 100000 in
set_option maxHeartbeats 2000000 in
theorem wend_jump {L : Lies} {u : UniL} {w : World} {s : StL} (hu : UOk u) (h : Walks L u w s) (hok : StOk u s) (hst : s.steps ≤ 1000000) (hF : SliceAt L.w0 4 (FunR L.w0) L.fp u.funcs) {f : FrL} {rest : List FrL} (hs : s.frames = f :: rest)
  {kind onn : Int} {onr : Bool} {to : List Int} (he : (topB u f).fin = ⟨kind, onr, onn, to⟩) (hk : kind = 2) (tp : Option Addr) (tc : Nat) (hT : SliceAt w 1 IntR tp to) :
  Calls Tryd.prog 125 #[.pointer (some ⟨L.W, 0, none⟩), .agg #[.int .i64 kind, .bool onr, .int .i64 onn, .slice tp to.length tc]] w fun e w' => e = .returned (.bool (endS u s ⟨kind, onr, onn, to⟩).2) ∧ Walks L u w' (endS u s ⟨kind, onr, onn, to⟩).1 := by
 have hf := hok.frs f (by rw [hs]; exact List.mem_cons_self)
 have hE := (hu.fin hf).1
 rw [he] at hE
 subst hk
 have hlen := hE.len
 simp only at hlen
 have hl : to.length = 1 := by omega
 obtain ⟨t, rfl⟩ : ∃ t, to = [t] := List.length_eq_one_iff.1 hl
 have hS : endS u s ⟨2, onr, onn, [t]⟩ = (jumpS u s t.toNat, true) := by unfold endS; simp
 have HJ := hidI (fun W (hb : Below w.heap.size w W) => wjump_any hu (h.mono hb) hok hst hF hs (t := t) (by rw [he]; simp))
 have HS := hidI hS
 obtain ⟨b, o, hp, c0, _⟩ := intGet hT (Below.refl _ _) (i := 0) (by simp)
 subst hp
 have z0 := lt_of_cell c0
 simp only [Nat.add_zero, List.getElem_cons_zero] at c0
 clear hS hT hlen hl hE h hok hF
 go_enter Tryd.func125, Tryd.ntmps125
 go_wp2_with fail
 refine (HJ.out _ (by repeat (first | (with_reducible first | exact bR _ _ | exact bH ‹_› | refine bD ?_ | refine bN ?_ _ | refine bS ?_ ?_ _ | refine bA ?_ ?_ _ | refine bT hb3 ?_ ?_ | refine bT hb5 ?_ ?_ | refine bT hb4 ?_ ?_) | omega | (simp; omega) | simp))).mono ?_
 rintro e w1 ⟨rfl, h1⟩
 have H1 := hidI h1
 clear h1
 go_wp2_with fail
 go_ret
 exact ⟨by rw [HS.out]; rfl, by rw [HS.out]; exact H1.out⟩

set_option maxRecDepth 100000 in
set_option maxHeartbeats 2000000 in
theorem wend_if {L : Lies} {u : UniL} {w : World} {s : StL} (hu : UOk u) (h : Walks L u w s) (hok : StOk u s) (hst : s.steps ≤ 1000000) (hF : SliceAt L.w0 4 (FunR L.w0) L.fp u.funcs) {f : FrL} {rest : List FrL} (hs : s.frames = f :: rest)
  {kind onn : Int} {onr : Bool} {to : List Int} (he : (topB u f).fin = ⟨kind, onr, onn, to⟩) (hk : kind = 3) (tp : Option Addr) (tc : Nat) (hT : SliceAt w 1 IntR tp to) :
  Calls Tryd.prog 125 #[.pointer (some ⟨L.W, 0, none⟩), .agg #[.int .i64 kind, .bool onr, .int .i64 onn, .slice tp to.length tc]] w fun e w' => e = .returned (.bool (endS u s ⟨kind, onr, onn, to⟩).2) ∧ Walks L u w' (endS u s ⟨kind, onr, onn, to⟩).1 := by
 have hf := hok.frs f (by rw [hs]; exact List.mem_cons_self)
 have hE := (hu.fin hf).1
 rw [he] at hE
 subst hk
 have hlen := hE.len
 have hon := hE.on
 simp only at hlen hon
 have hl : to.length = 2 := by omega
 obtain ⟨t0, t1, rfl⟩ := len_2 hl
 have htop : topR s = f.regs := by unfold topR; rw [hs]
 have hrl : ((topR s).length : Int) = (fnU u f.fn).regs := by
  have := hf.regs
  have := (hu.fn hf.fn).2.2.2.2.1
  rw [htop]
  omega
 have hS : endS u s ⟨3, onr, onn, [t0, t1]⟩ = (jumpS u s (if valL (topR s) onr onn = 0 then t1 else t0).toNat, true) := by unfold endS; simp
 have HJ0 := hidI (fun W (hb : Below w.heap.size w W) => wjump_any hu (h.mono hb) hok hst hF hs (t := t0) (by rw [he]; simp))
 have HJ1 := hidI (fun W (hb : Below w.heap.size w W) => wjump_any hu (h.mono hb) hok hst hF hs (t := t1) (by rw [he]; simp))
 have HV := hidI (fun W (hb : Below w.heap.size w W) => (h.mono hb).val (by rw [hs]; simp) onr onn (by rw [hrl]; exact hon))
 obtain ⟨b, o, hp, c0, _⟩ := intGet hT (Below.refl _ _) (i := 0) (by simp)
 subst hp
 obtain ⟨b', o', hp, c1, _⟩ := intGet hT (Below.refl _ _) (i := 1) (by simp)
 cases hp
 have z0 := lt_of_cell c0
 simp only [Nat.add_zero, List.getElem_cons_zero] at c0
 simp only [List.getElem_cons_succ, List.getElem_cons_zero] at c1
 generalize valL (topR s) onr onn = x at *
 by_cases hx : x = 0
 ·rw [if_pos hx] at hS
  have hq : (x != 0) = false := by simp [hx]
  have HS := hidI hS
  clear hS hT hlen hl hE h hok hF hx hon htop hrl
  go_enter Tryd.func125, Tryd.ntmps125
  go_wp2_with fail
  refine (HV.out _ (by repeat (first | (with_reducible first | exact bR _ _ | exact bH ‹_› | refine bD ?_ | refine bN ?_ _ | refine bS ?_ ?_ _ | refine bA ?_ ?_ _ | refine bT hb3 ?_ ?_ | refine bT hb5 ?_ ?_ | refine bT hb4 ?_ ?_) | omega | (simp; omega) | simp))).mono ?_
  rintro e w1 ⟨rfl, hb1⟩
  have HB1 : Hid (Below w.heap.size w w1) := Below.trans (by repeat (first | (with_reducible first | exact bR _ _ | exact bH ‹_› | refine bD ?_ | refine bN ?_ _ | refine bS ?_ ?_ _ | refine bA ?_ ?_ _ | refine bT hb3 ?_ ?_ | refine bT hb5 ?_ ?_ | refine bT hb4 ?_ ?_) | omega | (simp; omega) | simp)) (hb1.mono (by simp))
  obtain ⟨hc1, hf1, hz1⟩ := bcell hb1
  simp at hz1
  clear hb1
  go_wp2_with fail
  refine (HJ1.out _ (by repeat (first | (with_reducible first | exact bR _ _ | exact bH ‹_› | refine bD ?_ | refine bN ?_ _ | refine bS ?_ ?_ _ | refine bA ?_ ?_ _ | refine bT hb3 ?_ ?_ | refine bT hb5 ?_ ?_ | refine bT hb4 ?_ ?_) | omega | (simp; omega) | simp))).mono ?_
  rintro e w2 ⟨rfl, h1⟩
  have H1 := hidI h1
  clear h1
  go_wp2_with fail
  go_ret
  exact ⟨by rw [HS.out]; rfl, by rw [HS.out]; exact H1.out⟩
 ·rw [if_neg hx] at hS
  have hq : (x != 0) = true := by simp [hx]
  have HS := hidI hS
  clear hS hT hlen hl hE h hok hF hx hon htop hrl
  go_enter Tryd.func125, Tryd.ntmps125
  go_wp2_with fail
  refine (HV.out _ (by repeat (first | (with_reducible first | exact bR _ _ | exact bH ‹_› | refine bD ?_ | refine bN ?_ _ | refine bS ?_ ?_ _ | refine bA ?_ ?_ _ | refine bT hb3 ?_ ?_ | refine bT hb5 ?_ ?_ | refine bT hb4 ?_ ?_) | omega | (simp; omega) | simp))).mono ?_
  rintro e w1 ⟨rfl, hb1⟩
  have HB1 : Hid (Below w.heap.size w w1) := Below.trans (by repeat (first | (with_reducible first | exact bR _ _ | exact bH ‹_› | refine bD ?_ | refine bN ?_ _ | refine bS ?_ ?_ _ | refine bA ?_ ?_ _ | refine bT hb3 ?_ ?_ | refine bT hb5 ?_ ?_ | refine bT hb4 ?_ ?_) | omega | (simp; omega) | simp)) (hb1.mono (by simp))
  obtain ⟨hc1, hf1, hz1⟩ := bcell hb1
  simp at hz1
  clear hb1
  go_wp2_with fail
  refine (HJ0.out _ (by repeat (first | (with_reducible first | exact bR _ _ | exact bH ‹_› | refine bD ?_ | refine bN ?_ _ | refine bS ?_ ?_ _ | refine bA ?_ ?_ _ | refine bT hb3 ?_ ?_ | refine bT hb5 ?_ ?_ | refine bT hb4 ?_ ?_) | omega | (simp; omega) | simp))).mono ?_
  rintro e w2 ⟨rfl, h1⟩
  have H1 := hidI h1
  clear h1
  go_wp2_with fail
  go_ret
  exact ⟨by rw [HS.out]; rfl, by rw [HS.out]; exact H1.out⟩

set_option maxRecDepth 100000 in
set_option maxHeartbeats 2000000 in
theorem wend_ret {L : Lies} {u : UniL} {w : World} {s : StL} (hu : UOk u) (h : Walks L u w s) (hok : StOk u s) {f : FrL} {rest : List FrL} (hs : s.frames = f :: rest)
  {kind onn : Int} {onr : Bool} {to : List Int} (he : (topB u f).fin = ⟨kind, onr, onn, to⟩) (hk : kind = 1) (tp : Option Addr) (tc : Nat) :
  Calls Tryd.prog 125 #[.pointer (some ⟨L.W, 0, none⟩), .agg #[.int .i64 kind, .bool onr, .int .i64 onn, .slice tp to.length tc]] w fun e w' => e = .returned (.bool (endS u s ⟨kind, onr, onn, to⟩).2) ∧ Walks L u w' (endS u s ⟨kind, onr, onn, to⟩).1 := by
 have hf := hok.frs f (by rw [hs]; exact List.mem_cons_self)
 have hE := (hu.fin hf).1
 rw [he] at hE
 subst hk
 have hon := hE.on
 simp only at hon
 have htop : topR s = f.regs := by unfold topR; rw [hs]
 have hrl : ((topR s).length : Int) = (fnU u f.fn).regs := by
  have := hf.regs
  have := (hu.fn hf.fn).2.2.2.2.1
  rw [htop]
  omega
 have HV := hidI (fun W (hb : Below w.heap.size w W) => (h.mono hb).val (by rw [hs]; simp) onr onn (by rw [hrl]; exact hon))
 obtain ⟨ro, R, iv, ov, fv, h⟩ := h
 obtain ⟨F, cap, hfv, hlen, hcap, hl, c9, _, _, _, _, c4⟩ := h.frm hs
 have HT := hidI (fun W (hb : Below w.heap.size w W) => top_any (h.mono hb) hs hfv)
 rw [htop] at HV
 generalize hx : valL f.regs onr onn = x at *
 have zF := lt_of_cell c4
 have zW := lt_of_cell c9
 have f9 := (blk h.head).2 9
 have c6 : w.cell? ⟨L.W, 6, none⟩ = some (.int .i64 s.value) := by rw [(blk h.head).1]; rfl
 have f6 := (blk h.head).2 6
 have HP : Hid (∀ X, Below w.heap.size w X → WalkR L u (X.setCell ⟨L.W, 9, none⟩ (.slice (some ⟨F, 0, none⟩) rest.length cap)) ro R iv ov (.slice (some ⟨F, 0, none⟩) rest.length cap) { s with frames := rest }) := fun X hX => by
  have hm := h.mono hX
  exact hm.pop hs hfv (grown_set X ⟨L.W, 9, none⟩ _) (by rw [heap_set hm.head]; rfl)
 have HP6 : Hid (∀ X, Below w.heap.size w X → WalkR L u ((X.setCell ⟨L.W, 9, none⟩ (.slice (some ⟨F, 0, none⟩) rest.length cap)).setCell ⟨L.W, 6, none⟩ (.int .i64 x)) ro R iv ov (.slice (some ⟨F, 0, none⟩) rest.length cap) { s with frames := rest, value := x }) := fun X hX => by
  have hm := HP.out X hX
  exact hm.setW (s' := { s with frames := rest, value := x }) (grown_set _ ⟨L.W, 6, none⟩ _) (by rw [heap_set hm.head]; rfl) rfl rfl rfl rfl h.inp
 have hdst := hok.dst
 have hlz : s.frames.length ≤ 30 := hok.few
 have hSx : valL f.regs onr onn = x := hx
 by_cases hr : rest = []
 ·have hq : ((rest.length : Int) == 0) = true := by simp [hr]
  have HS : Hid (endS u s ⟨1, onr, onn, to⟩ = ({ s with frames := rest, value := x, state := 0 }, false)) := by
   show _ = _
   unfold endS
   rw [hs, hr]
   simp [hSx]
  clear h hE hon htop hrl hfv hok hdst hSx hx hr hs
  go_enter Tryd.func125, Tryd.ntmps125
  go_wp2_with fail
  go_region_with
   (first
    | (go_at_call 141; refine (HV.out _ (by repeat (first | (with_reducible first | exact bR _ _ | exact bH ‹_› | refine bD ?_ | refine bN ?_ _ | refine bS ?_ ?_ _ | refine bA ?_ ?_ _ | refine bT hb3 ?_ ?_ | refine bT hb5 ?_ ?_ | refine bT hb4 ?_ ?_) | omega | (simp; omega) | simp))).mono ?_; rintro e w1 ⟨rfl, hb1⟩; have HB1 : Hid (Below w.heap.size w w1) := Below.trans (by repeat (first | (with_reducible first | exact bR _ _ | exact bH ‹_› | refine bD ?_ | refine bN ?_ _ | refine bS ?_ ?_ _ | refine bA ?_ ?_ _ | refine bT hb3 ?_ ?_ | refine bT hb5 ?_ ?_ | refine bT hb4 ?_ ?_) | omega | (simp; omega) | simp)) (hb1.mono (by simp)); have hz1 := HB1.out.size; obtain ⟨hc1, hf1, _⟩ := bcell HB1.out; clear hb1)
    | (go_at_call 124; refine (HT.out _ (by repeat (first | (with_reducible first | exact bR _ _ | exact bH ‹_› | refine bD ?_ | refine bN ?_ _ | refine bS ?_ ?_ _ | refine bA ?_ ?_ _ | refine bT hb3 ?_ ?_ | refine bT hb5 ?_ ?_ | refine bT hb4 ?_ ?_) | omega | (simp; omega) | simp))).mono ?_; rintro e w2 ⟨rfl, nq, rfl⟩))
  all_goals go_wp2_with fail
  all_goals
   have q0 : (0 : Int) ≤ (rest.length : Int) := by omega
   have q1 : (rest.length : Int) ≤ (cap : Int) := by omega
   have qw : IntKind.i64.wrap (rest.length : Int) = (rest.length : Int) := IntWalk.i64_in _ (by omega)
   go_region
  all_goals
   clear qw
   go_wp2_with fail
   refine (wstop_any (HP6.out _ (by repeat (first | (with_reducible first | exact bR _ _ | exact bH ‹_› | refine bD ?_ | refine bN ?_ _ | refine bS ?_ ?_ _ | refine bA ?_ ?_ _ | refine bT hb3 ?_ ?_ | refine bT hb5 ?_ ?_ | refine bT hb4 ?_ ?_) | omega | (simp; omega) | simp))) 0).mono ?_
   rintro e w3 ⟨rfl, h3⟩
   have H3 := hidI h3
   clear h3
   go_wp2_with fail
   go_ret
   exact ⟨by rw [HS.out]; rfl, by rw [HS.out]; exact H3.out.walks⟩
 ·obtain ⟨g, r2, hr2⟩ : ∃ g r2, rest = g :: r2 := by cases rest with | nil => exact absurd rfl hr | cons g r2 => exact ⟨g, r2, rfl⟩
  have hq : ((rest.length : Int) == 0) = false := by rw [hr2]; simp; omega
  have HS : Hid (endS u s ⟨1, onr, onn, to⟩ = (putS { s with frames := rest } f.dst x, true)) := by
   show _ = _
   unfold endS
   rw [hs, hr2]
   simp [hSx]
  have hd : f.dst < (topR { s with frames := rest }).length ∨ f.dst < 0 := by
   rw [hs, hr2] at hdst
   have := hdst.1
   unfold topR
   rw [hr2]
   simp only
   omega
  have HD := hidI hd
  have HNE := hidI hr
  clear h hE hon htop hrl hfv hok hdst hSx hx hr hs hr2 hd
  go_enter Tryd.func125, Tryd.ntmps125
  go_wp2_with fail
  go_region_with
   (first
    | (go_at_call 141; refine (HV.out _ (by repeat (first | (with_reducible first | exact bR _ _ | exact bH ‹_› | refine bD ?_ | refine bN ?_ _ | refine bS ?_ ?_ _ | refine bA ?_ ?_ _ | refine bT hb3 ?_ ?_ | refine bT hb5 ?_ ?_ | refine bT hb4 ?_ ?_) | omega | (simp; omega) | simp))).mono ?_; rintro e w1 ⟨rfl, hb1⟩; have HB1 : Hid (Below w.heap.size w w1) := Below.trans (by repeat (first | (with_reducible first | exact bR _ _ | exact bH ‹_› | refine bD ?_ | refine bN ?_ _ | refine bS ?_ ?_ _ | refine bA ?_ ?_ _ | refine bT hb3 ?_ ?_ | refine bT hb5 ?_ ?_ | refine bT hb4 ?_ ?_) | omega | (simp; omega) | simp)) (hb1.mono (by simp)); have hz1 := HB1.out.size; obtain ⟨hc1, hf1, _⟩ := bcell HB1.out; clear hb1)
    | (go_at_call 124; refine (HT.out _ (by repeat (first | (with_reducible first | exact bR _ _ | exact bH ‹_› | refine bD ?_ | refine bN ?_ _ | refine bS ?_ ?_ _ | refine bA ?_ ?_ _ | refine bT hb3 ?_ ?_ | refine bT hb5 ?_ ?_ | refine bT hb4 ?_ ?_) | omega | (simp; omega) | simp))).mono ?_; rintro e w2 ⟨rfl, nq, rfl⟩))
  all_goals go_wp2_with fail
  all_goals
   have q0 : (0 : Int) ≤ (rest.length : Int) := by omega
   have q1 : (rest.length : Int) ≤ (cap : Int) := by omega
   have qw : IntKind.i64.wrap (rest.length : Int) = (rest.length : Int) := IntWalk.i64_in _ (by omega)
   go_region
  all_goals
   clear qw
   go_wp2_with fail
   refine (wset_any (HP.out _ (by repeat (first | (with_reducible first | exact bR _ _ | exact bH ‹_› | refine bD ?_ | refine bN ?_ _ | refine bS ?_ ?_ _ | refine bA ?_ ?_ _ | refine bT hb3 ?_ ?_ | refine bT hb5 ?_ ?_ | refine bT hb4 ?_ ?_) | omega | (simp; omega) | simp))) HNE.out f.dst x HD.out).mono ?_
   rintro e w3 ⟨rfl, h3⟩
   have H3 := hidI h3
   clear h3
   go_wp2_with fail
   go_ret
   exact ⟨by rw [HS.out]; rfl, by rw [HS.out]; exact H3.out.walks⟩
theorem wend_any {L : Lies} {u : UniL} {w : World} {s : StL} (hu : UOk u) (h : Walks L u w s) (hok : StOk u s) (hst : s.steps ≤ 1000000) (hF : SliceAt L.w0 4 (FunR L.w0) L.fp u.funcs) {f : FrL} {rest : List FrL} (hs : s.frames = f :: rest)
  {kind onn : Int} {onr : Bool} {to : List Int} (he : (topB u f).fin = ⟨kind, onr, onn, to⟩) (tp : Option Addr) (tc : Nat) (hT : SliceAt w 1 IntR tp to) :
  Calls Tryd.prog 125 #[.pointer (some ⟨L.W, 0, none⟩), .agg #[.int .i64 kind, .bool onr, .int .i64 onn, .slice tp to.length tc]] w fun e w' => e = .returned (.bool (endS u s ⟨kind, onr, onn, to⟩).2) ∧ Walks L u w' (endS u s ⟨kind, onr, onn, to⟩).1 := by
 have hE := (hu.fin (hok.frs f (by rw [hs]; exact List.mem_cons_self))).1.kind
 rw [he] at hE
 rcases hE with hk | hk | hk
 ·exact wend_ret hu h hok hs he hk tp tc
 ·exact wend_jump hu h hok hst hF hs he hk tp tc hT
 ·exact wend_if hu h hok hst hF hs he hk tp tc hT
end Go.Proofs.YtdjamkinijhjoaaDoor
