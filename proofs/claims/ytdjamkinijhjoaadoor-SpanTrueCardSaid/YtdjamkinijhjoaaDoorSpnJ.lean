/-
  The contract of span.spans.
-/
import Derived.Deep.LoopGhost
import Derived.BigQuiet
import Derived.Deep.QuietTactic
import Derived.WalkKit
import Derived.WalkSpells
import Derived.WalkLawsBesides
import Derived.Test.YtdjamkinijhjoaaDoorJChkN
import Derived.Test.YtdjamkinijhjoaaDoorJRegA
import Derived.Test.YtdjamkinijhjoaaDoorJSpnI
namespace Go.Proofs.YtdjamkinijhjoaaDoor
open Go.RowKit Go.Shelf

def initP (k : Nat) (r : Nat) : Spn := if r < k then allS else noS'
theorem initP_succ (k : Nat) : setS (initP k) k allS = initP (k + 1) := by
 funext r
 unfold setS initP
 by_cases h : r = k
 ·rw [if_pos h, if_pos (by omega)]
 ·rw [if_neg h]
  by_cases h2 : r < k
  ·rw [if_pos h2, if_pos (by omega)]
  ·rw [if_neg h2, if_neg (by omega)]
theorem infoSpn : (Tryd.prog.info? 74).map (fun i => (i.zero, i.size, i.bytes)) = some (some (.agg #[.int .i64 0, .int .i64 0, .bool false]), 3, 24) := by kernel_rfl
theorem underSpns : Tryd.prog.underlying 71 = some (.slice 74) := by kernel_rfl
theorem rowSpn (w : World) (n : Nat) : (w.alloc (.cells (madeCells #[.int .i64 0, .int .i64 0, .bool false] (n * 3)) 74)).rowIs w.heap.size 74 (n * 3) (spF (initP 0)) :=
 ⟨_, heap_here w _, by rw [size_madeCells], fun i hi => by
  have h3 : i % 3 = 0 ∨ i % 3 = 1 ∨ i % 3 = 2 := by omega
  rcases h3 with h3 | h3 | h3 <;> simp [madeCells, hi, h3, spF, initP, noS']⟩

section
variable {P : Program} {md : Region.Mode} {ops : Array Oper} {Q : Exit → Act → World → Prop} {S : World → Prop} {z : Nat}
end
theorem itS_phi {t : Nat} {l : Nat → Spn} {ag : Bool} {p : PhiL} {d : Nat} {s : Spn} (hd : p.dst = d) (hs : s = phS l p.src) : itS t (l, ag) (.phi p) = (putSp t l d s, ag || chgS l d s) := by
 have h0 : ¬ (ItS.phi p).dst < 0 := by show ¬ p.dst < 0; omega
 have h1 : (ItS.phi p).dst.toNat = d := by show p.dst.toNat = d; omega
 unfold itS
 rw [if_neg h0, h1, hs]
 rfl
theorem itS_ins {t : Nat} {l : Nat → Spn} {ag : Bool} {x : InsL} {d : Nat} {s : Spn} (hd : x.dst = d) (hs : s = makS x.op (vlS l (x.ar, x.an)) (vlS l (x.br, x.bn))) : itS t (l, ag) (.ins x) = (putSp t l d s, ag || chgS l d s) := by
 have h0 : ¬ (ItS.ins x).dst < 0 := by show ¬ x.dst < 0; omega
 have h1 : (ItS.ins x).dst.toNat = d := by show x.dst.toNat = d; omega
 unfold itS
 rw [if_neg h0, h1, hs]
 rfl
theorem itS_no {t : Nat} {l : Nat → Spn} {ag : Bool} {x : InsL} (hd : x.dst < 0) : itS t (l, ag) (.ins x) = (l, ag) := if_pos hd
theorem SpW.turn {w : World} {fv : Array Value} {R X O T A : Nat} {l : Nat → Spn} {turn : Nat} {ag : Bool} {W : World} (h : SpW w fv R X O T A l turn ag W) :
  SpW w fv R X O W.heap.size (W.heap.size + 1) l (turn + 1) ag ((W.alloc (.cells #[.int .i64 ((turn : Int) + 1)] 3)).alloc (.cells #[.bool ag] 4)) := by
 obtain ⟨W4, hW4⟩ : ∃ W4, W4 = (W.alloc (.cells #[.int .i64 ((turn : Int) + 1)] 3)).alloc (.cells #[.bool ag] 4) := ⟨_, rfl⟩
 rw [← hW4]
 have hb : Below W.heap.size W W4 := by rw [hW4]; repeat (first | (with_reducible first | exact bR _ _ | exact bH ‹_› | refine bD ?_ | refine bN ?_ _ | refine bS ?_ ?_ _ | refine bA ?_ ?_ _ | refine bT hb3 ?_ ?_ | refine bT hb5 ?_ ?_ | refine bT hb4 ?_ ?_) | omega | (simp; omega) | simp)
 have ht : W4.heap[W.heap.size]? = some (.cells #[.int .i64 ((turn : Int) + 1)] 3 (0, 0)) := by rw [hW4]; exact heap_step (heap_here W _)
 have ha : W4.heap[W.heap.size + 1]? = some (.cells #[.bool ag] 4 (0, 0)) := by rw [hW4]; exact heap_at (by simp)
 clear hW4
 have z1 := ltHeap h.x
 have z2 := h.o.lt
 have z3 := h.below.size
 have z4 := h.hX
 have z5 := h.hO
 have hn := h.next hb
 exact { hn with
  t := ht
  a := ha
  hT := by omega
  hA := by omega
  xo := h.xo
  xa := by omega
  oa := by omega
  to := by omega
  ta := by omega }
set_option maxRecDepth 100000 in
set_option maxHeartbeats 8000000 in
theorem spans_aux (f : FunL) (P R : Nat) (nm : ByteArray) (fp : Option Addr) (fc : Nat) (w : World) (hP : Hid (f.params = P)) (hRR : Hid (f.regs = R)) (hS : FunR' f) (hF : SliceAt w 6 (BlkR w) fp f.blocks) (hA : AllW w) :
  Calls Tryd.prog 22 #[.agg #[.string nm, .int .i64 P, .int .i64 R, .slice fp f.blocks.length fc]] w fun e w' => ∃ O, e = .returned (.slice (some ⟨O, 0, none⟩) R R) ∧ w.heap.size ≤ O ∧ w'.rowIs O 74 (R * 3) (spF (spnF f)) ∧ Below w.heap.size w w' := by
 have hPR : P ≤ R := by have h1 := hS.par; have h2 := hP.out; have h3 := hRR.out; omega
 have hR100 : R ≤ 100 := by have h1 := hS.reg; have h3 := hRR.out; omega
 have n1 := hS.n1
 have n40 := hS.n40
 have HRn : Hid (f.regs.toNat = R) := hidI (by have h := hRR.out; omega)
 have HOk := hidI (funOk_of hS hF)
 have HF := hidI hF
 have HS := hidI hS
 have HA := hidI hA
 have HI := hidI (show initS f = initP P from by
  funext r
  unfold initS initP
  rw [hP.out]
  by_cases h : r < P
  ·rw [if_pos (by omega), if_pos h]
  ·rw [if_neg (by omega), if_neg h])
 clear hS hF hA
 obtain ⟨i1, k1, k2, k3, k4⟩ := info_parts infoSpn
 have hmk : ∀ w, (Instr.makeSlice 71 (.int .i64 (R : Int)) (.int .i64 (R : Int))).run Tryd.prog w = .ok (.slice (some ⟨w.heap.size, 0, none⟩) R R) (w.alloc (.cells (madeCells #[.int .i64 0, .int .i64 0, .bool false] (R * 3)) 74)) := fun w => by
  have hr := run_make (P := Tryd.prog) w 71 74 i1 _ underSpns k1 k2 .i64 .i64 R R (by omega) (Int.le_refl _) (by rw [k4]; omega) (by omega)
  simp only [Int.toNat_natCast, k3] at hr
  exact hr
 clear k1 k2 k3 k4
 obtain ⟨fv, hfv⟩ : ∃ fv : Array Value, fv = #[.string nm, .int .i64 (P : Int), .int .i64 (R : Int), .slice fp f.blocks.length fc] := ⟨_, rfl⟩
 have HFv := hidI hfv
 clear hfv
 go_enter Tryd.func22, Tryd.ntmps22
 go_wp2_with fail
 rw [← HFv.out]
 obtain ⟨W2, hW2⟩ : ∃ W2, W2 = ((w.alloc (.cells fv 37)).alloc (.cells (madeCells #[.int .i64 0, .int .i64 0, .bool false] (R * 3)) 74)).alloc (.cells #[.slice (some ⟨w.heap.size + 1, 0, none⟩) R R] 71) := ⟨_, rfl⟩
 rw [← hW2]
 have HB2 := hidI (show Below w.heap.size w W2 by rw [hW2]; repeat (first | (with_reducible first | exact bR _ _ | exact bH ‹_› | refine bD ?_ | refine bN ?_ _ | refine bS ?_ ?_ _ | refine bA ?_ ?_ _ | refine bT hb3 ?_ ?_ | refine bT hb5 ?_ ?_ | refine bT hb4 ?_ ?_) | omega | (simp; omega) | simp))
 have HX2 := hidI (show W2.heap[w.heap.size + 1 + 1]? = some (.cells #[.slice (some ⟨w.heap.size + 1, 0, none⟩) R R] 71 (0, 0)) by rw [hW2]; exact heap_at (by simp))
 have HF2 := hidI (show W2.heap[w.heap.size]? = some (.cells fv 37 (0, 0)) by rw [hW2]; exact heap_step (heap_step (heap_here w _)))
 have HO2 := hidI (show W2.rowIs (w.heap.size + 1) 74 (R * 3) (spF (initP 0)) by
  have h0 := (rowSpn (w.alloc (.cells fv 37)) R).alloc (.cells #[.slice (some ⟨w.heap.size + 1, 0, none⟩) R R] 71)
  rw [show (w.alloc (.cells fv 37)).heap.size = w.heap.size + 1 from by simp] at h0
  rw [hW2]
  exact h0)
 clear hW2 hmk
 go_loopg [23] P (fun q s23 wr => ∃ k : Nat, k ≤ P ∧ q = P - k ∧ s23 = .int .i64 k ∧ wr.rowIs (w.heap.size + 1) 74 (R * 3) (spF (initP k)) ∧ Kept (fun b => b = w.heap.size + 1) W2 wr)
 case atStart => exact ⟨0, by omega, rfl, rfl, HO2.out, Kept.refl _ _⟩
 case round =>
  obtain ⟨k, hk, rfl, rfl, hR, hK⟩ := hrel
  have HR := hidI hR
  have HK := hidI hK
  clear hR hK HO2
  have hX := (HK.out.block _ (ltHeap HX2.out) (by omega)).trans HX2.out
  have HX := hidI hX
  have x0 := (blk hX).1 0
  have zx := ltHeap hX
  simp only [List.getElem?_toArray, List.getElem?_cons_zero] at x0
  clear hX
  have HBr := hidI (HB2.out.trans (HK.out.below HB2.out.size fun i hi => by omega))
  by_cases hlt : k < P
  ·have hkR : k < R := by omega
   obtain ⟨g0, g1, g2⟩ := HA.out.below HBr.out
   have zg := lt_of_cell HA.out.1
   have hO := HR.out.lt
   have c0 := HR.out.cell (i := k * 3) (by omega)
   have c1 := HR.out.cell (i := k * 3 + 1) (by omega)
   have c2 := HR.out.cell (i := k * 3 + 2) (by omega)
   have f0 := HR.out.frozen (k * 3)
   have f1 := HR.out.frozen (k * 3 + 1)
   have f2 := HR.out.frozen (k * 3 + 2)
   go_wp2_with fail
   go_roundg (P - (k + 1))
   case measure => omega
   case rel => exact ⟨k + 1, by omega, rfl, by go_num, by rw [← initP_succ]; exact spRow_set allS HR.out, ((HK.out.setCell rfl _).setCell rfl _).setCell rfl _⟩
  ·obtain rfl : k = P := by omega
   have hI : Hid (wr.rowIs (w.heap.size + 1) 74 (R * 3) (spF (initS f))) := hidI (by rw [HI.out]; exact HR.out)
   have HF3 := hidI ((HK.out.block _ (ltHeap HF2.out) (by omega)).trans HF2.out)
   obtain ⟨w3, hw3⟩ : ∃ w3, w3 = wr := ⟨_, rfl⟩
   subst hw3
   clear HR HK HX2 HF2 HB2 HI
   go_wp2_with fail
   obtain ⟨W4, hW4⟩ : ∃ W4, W4 = (w3.alloc (.cells #[.int .i64 0] 3)).alloc (.cells #[.bool true] 4) := ⟨_, rfl⟩
   rw [← hW4]
   have hw3z := HBr.out.size
   have zO := hI.out.lt
   have HW4 : Hid (SpW w fv R (w.heap.size + 1 + 1) (w.heap.size + 1) w3.heap.size (w3.heap.size + 1) (initS f) 0 true W4) := hidI (by
    have h0 : Below w3.heap.size w3 W4 := by rw [hW4]; repeat (first | (with_reducible first | exact bR _ _ | exact bH ‹_› | refine bD ?_ | refine bN ?_ _ | refine bS ?_ ?_ _ | refine bA ?_ ?_ _ | refine bT hb3 ?_ ?_ | refine bT hb5 ?_ ?_ | refine bT hb4 ?_ ?_) | omega | (simp; omega) | simp)
    exact { below := HBr.out.trans (h0.mono hw3z), fb := (h0.block _ (ltHeap HF3.out)).trans HF3.out, x := (h0.block _ (ltHeap HX.out)).trans HX.out, o := hI.out.of_block (h0.block _ zO), t := (by rw [hW4]; exact heap_step (heap_here w3 _)), a := (by rw [hW4]; exact heap_at (by simp)), hX := by omega, hO := by omega, hT := by omega, hA := by omega, xo := by omega, xa := by omega, oa := by omega, to := by omega, ta := by omega })
   have HK0 : Hid (msS f.regs.toNat 0 (initS f) + 1 ≤ 2000) := hidI (by
    have h1 := rksS_le f.regs.toNat (initS f)
    have h2 := hRR.out
    unfold msS
    omega)
   clear hW4 hI HF3 HX HBr zx zO hw3z x0
   go_loopg [6, 7] (msS f.regs.toNat 0 (initS f) + 1) (fun q s6 s7 wr => ∃ (t : Nat) (l : Nat → Spn) (ag : Bool) (T A : Nat), s6 = .pointer (some ⟨T, 0, none⟩) ∧ s7 = .pointer (some ⟨A, 0, none⟩) ∧ SpW w fv R (w.heap.size + 1 + 1) (w.heap.size + 1) T A l t ag wr ∧ OkS l ∧ (ag = true → LeftS f t l q ∧ t + q ≤ 2000) ∧ (ag = false → l = spnF f ∧ q = 0))
   case atStart => exact ⟨0, initS f, true, _, _, rfl, rfl, HW4.out, OkS.init f, fun _ => ⟨LeftS.start f, by have := HK0.out; omega⟩, fun h => by cases h⟩
   case round =>
    obtain ⟨t, l, ag, T, A, rfl, rfl, hW, hOk, ht, hf⟩ := hrel
    have HW := hidI hW
    have HOl := hidI hOk
    clear hW hOk HW4 HK0
    cases ag with
    | false =>
     obtain ⟨rfl, rfl⟩ := hf rfl
     clear ht hf
     have x0 := (blk HW.out.x).1 0
     have zx := ltHeap HW.out.x
     simp only [List.getElem?_toArray, List.getElem?_cons_zero] at x0
     have a0 := (blk HW.out.a).1 0
     have af := (blk HW.out.a).2
     have za := ltHeap HW.out.a
     simp only [List.getElem?_toArray, List.getElem?_cons_zero] at a0
     go_wp2_with fail
     go_ret
     exact ⟨_, rfl, by omega, HW.out.o, HW.out.below⟩
    | true =>
     obtain ⟨hL, h2000⟩ := ht rfl
     obtain ⟨kr, rfl⟩ : ∃ k, gk = k + 1 := ⟨gk - 1, by have := hL.fuel; omega⟩
     have HL := hidI hL
     clear hL ht hf
     have hA0 := HW.out.hA
     have hT0 := HW.out.hT
     have hXA := HW.out.xa
     have hOA := HW.out.oa
     have hTA := HW.out.ta
     have hTO := HW.out.to
     have x0 := (blk HW.out.x).1 0
     have zx := ltHeap HW.out.x
     simp only [List.getElem?_toArray, List.getElem?_cons_zero] at x0
     have a0 := (blk HW.out.a).1 0
     have af := (blk HW.out.a).2
     have za := ltHeap HW.out.a
     simp only [List.getElem?_toArray, List.getElem?_cons_zero] at a0
     have f3 := (blk HW.out.fb).1 3
     have zf := ltHeap HW.out.fb
     rw [HFv.out] at f3
     simp only [List.getElem?_toArray, List.getElem?_cons_zero, List.getElem?_cons_succ] at f3
     go_wp2_with fail
     obtain ⟨w5, hw5⟩ : ∃ w5, w5 = wr.setCell ⟨A, 0, none⟩ (.bool false) := ⟨_, rfl⟩
     rw [← hw5]
     have HW5 : Hid (SpW w fv R (w.heap.size + 1 + 1) (w.heap.size + 1) T A l t false w5) := hidI (by
      rw [hw5]
      exact HW.out.put (HW.out.o.of_block (Go.Deep.blk_setCell_other _ _ _ _ hOA)) (by rw [row_set HW.out.a]; rfl) ((Kept.refl _ _).setCell (.inr rfl) _))
     clear hw5 HW a0 af za f3 zf
     go_loopg [39] f.blocks.length (fun q s39 wr => ∃ (k : Nat) (l' : Nat → Spn) (ag' : Bool), k ≤ f.blocks.length ∧ q = f.blocks.length - k ∧ s39 = .int .i64 k ∧ SpW w fv R (w.heap.size + 1 + 1) (w.heap.size + 1) T A l' t ag' wr ∧ OkS l' ∧ ((f.blocks.drop k).flatMap itsB).foldl (itS t) (l', ag') = rndS f t l)
     case atStart => exact ⟨0, l, false, by omega, rfl, rfl, HW5.out, HOl.out, by rw [List.drop_zero]; rfl⟩
     case round =>
      obtain ⟨k, l', ag', hk, rfl, rfl, hW, hOk, hfold⟩ := hrel
      have HW := hidI hW
      have HOl' := hidI hOk
      have HFo := hidI hfold
      clear hW hOk hfold HW5
      by_cases hlt : k < f.blocks.length
      ·obtain ⟨bb, bo, q1, c1, q2, c2, q3, c3, hfp, e0, e1, e2, e3, e4, e5, _, _, hl1, hl2, hl3, hPh, hIn, hTo⟩ := blkGet HF.out (Below.refl _ _) hlt
       subst hfp
       replace e0 := (HW.out.below.cell (p := ⟨bb, bo + k * 6, none⟩) (lt_of_cell e0)).trans e0
       replace e1 := (HW.out.below.cell (p := ⟨bb, bo + k * 6 + 1, none⟩) (lt_of_cell e1)).trans e1
       replace e2 := (HW.out.below.cell (p := ⟨bb, bo + k * 6 + 2, none⟩) (lt_of_cell e2)).trans e2
       replace e3 := (HW.out.below.cell (p := ⟨bb, bo + k * 6 + 3, none⟩) (lt_of_cell e3)).trans e3
       replace e4 := (HW.out.below.cell (p := ⟨bb, bo + k * 6 + 4, none⟩) (lt_of_cell e4)).trans e4
       replace e5 := (HW.out.below.cell (p := ⟨bb, bo + k * 6 + 5, none⟩) (lt_of_cell e5)).trans e5
       have hzb := lt_of_cell e0
       have HPh := hidI hPh
       have HIn := hidI hIn
       have hMem : ∀ x ∈ itsB f.blocks[k], ItOk f.regs.toNat x := fun x hx => HOk.out x (List.mem_flatMap.2 ⟨_, List.getElem_mem hlt, hx⟩)
       have HMem := hidI hMem
       have HPd : Hid (∀ p ∈ f.blocks[k].phis, 0 ≤ p.dst) := hidI fun p hp => (HS.out.phi k hlt p hp).dst.1
       have hfo := HFo.out
       rw [List.drop_eq_getElem_cons hlt, List.flatMap_cons, List.foldl_append] at hfo
       have HFo2 := hidI hfo
       clear hPh hIn hTo hMem hfo HFo
       generalize f.blocks[k] = B at *
       have zO := HW.out.o.lt
       have zA := ltHeap HW.out.a
       have zw := HW.out.below.size
       go_wp2_with fail
       obtain ⟨w6, hw6⟩ : ∃ w6, w6 = wr.alloc (.cells #[.slice q1 B.phis.length c1, .slice q2 B.list.length c2, .int .i64 B.fin.kind, .bool B.fin.onr, .int .i64 B.fin.onn, .slice q3 B.fin.to.length c3] 50) := ⟨_, rfl⟩
       rw [← hw6]
       have HW6 : Hid (SpW w fv R (w.heap.size + 1 + 1) (w.heap.size + 1) T A l' t ag' w6) := hidI (HW.out.next (by rw [hw6]; repeat (first | (with_reducible first | exact bR _ _ | exact bH ‹_› | refine bD ?_ | refine bN ?_ _ | refine bS ?_ ?_ _ | refine bA ?_ ?_ _ | refine bT hb3 ?_ ?_ | refine bT hb5 ?_ ?_ | refine bT hb4 ?_ ?_) | omega | (simp; omega) | simp)))
       obtain ⟨bx, hbx⟩ : ∃ bx, bx = wr.heap.size := ⟨_, rfl⟩
       have HBx : Hid (w6.heap[bx]? = some (.cells #[.slice q1 B.phis.length c1, .slice q2 B.list.length c2, .int .i64 B.fin.kind, .bool B.fin.onr, .int .i64 B.fin.onn, .slice q3 B.fin.to.length c3] 50 (0, 0))) := hidI (by rw [hw6, hbx]; exact heap_here wr _)
       have hxO : bx ≠ (w.heap.size + 1) := by omega
       have hxA : bx ≠ A := by omega
       rw [← hbx]
       clear hw6 HW e0 e1 e2 e3 e4 e5 hzb zO zA zw hbx
       go_loopg [46] B.phis.length (fun q s46 wr => ∃ (j : Nat) (l2 : Nat → Spn) (ag2 : Bool), j ≤ B.phis.length ∧ q = B.phis.length - j ∧ s46 = .int .i64 j ∧ SpW w fv R (w.heap.size + 1 + 1) (w.heap.size + 1) T A l2 t ag2 wr ∧ OkS l2 ∧ Kept (fun k => k = (w.heap.size + 1) ∨ k = A) w6 wr ∧ ((B.phis.drop j).map ItS.phi).foldl (itS t) (l2, ag2) = (B.phis.map ItS.phi).foldl (itS t) (l', ag'))
       case atStart => exact ⟨0, l', ag', by omega, rfl, rfl, HW6.out, HOl'.out, Kept.refl _ _, by rw [List.drop_zero]⟩
       case round =>
        obtain ⟨j, l2, ag2, hj, rfl, rfl, hW, hO2, hK, hf2⟩ := hrel
        have HW := hidI hW
        have HO2 := hidI hO2
        have HK := hidI hK
        have HF2 := hidI hf2
        clear hW hO2 hK hf2 HW6
        by_cases hjl : j < B.phis.length
        ·obtain ⟨pb, po, pq, pc, hpq, d0, d1, _, hl4, hSrc⟩ := phiGet HPh.out (Below.refl _ _) hjl
         subst hpq
         replace d0 := (HW.out.below.cell (p := ⟨pb, po + j * 2, none⟩) (lt_of_cell d0)).trans d0
         replace d1 := (HW.out.below.cell (p := ⟨pb, po + j * 2 + 1, none⟩) (lt_of_cell d1)).trans d1
         have hzp := lt_of_cell d0
         have hIt : ItOk f.regs.toNat (.phi B.phis[j]) := HMem.out _ (List.mem_append_left _ (List.mem_map_of_mem (List.getElem_mem hjl)))
         have hPd : 0 ≤ B.phis[j].dst := HPd.out _ (List.getElem_mem hjl)
         have hff := HF2.out
         rw [List.drop_eq_getElem_cons hjl, List.map_cons, List.foldl_cons] at hff
         have HFF := hidI hff
         have HSrc := hidI hSrc
         have HIt := hidI hIt
         clear hff hSrc hIt HF2
         generalize B.phis[j] = p at *
         obtain ⟨d, hd⟩ : ∃ d : Nat, p.dst = d := ⟨p.dst.toNat, by omega⟩
         rw [hd] at d0
         have hdR : d < R := by
          have h1 := HIt.out.1
          have h2 := HRn.out
          have h1 : p.dst < f.regs.toNat := h1
          omega
         have Hd := hidI hd
         clear hd
         have zO := HW.out.o.lt
         have zA := ltHeap HW.out.a
         have zX := ltHeap HW.out.x
         have zT := ltHeap HW.out.t
         have zw := HW.out.below.size
         go_wp2_with fail
         obtain ⟨w7, hw7⟩ : ∃ w7, w7 = (wr.alloc (.cells #[.int .i64 (d : Int), .slice pq p.src.length pc] 78)).alloc (.cells #[.int .i64 0, .int .i64 0, .bool false] 74) := ⟨_, rfl⟩
         rw [← hw7]
         have hw7b : Below wr.heap.size wr w7 := by rw [hw7]; repeat (first | (with_reducible first | exact bR _ _ | exact bH ‹_› | refine bD ?_ | refine bN ?_ _ | refine bS ?_ ?_ _ | refine bA ?_ ?_ _ | refine bT hb3 ?_ ?_ | refine bT hb5 ?_ ?_ | refine bT hb4 ?_ ?_) | omega | (simp; omega) | simp)
         have HW7 := hidI (HW.out.next hw7b)
         have HK7 := hidI (HK.out.trans (Kept.of_below (S := fun _ => False) hw7b) (fun _ _ h => h.elim))
         obtain ⟨bp, hbp⟩ : ∃ bp, bp = wr.heap.size := ⟨_, rfl⟩
         have HP7 : Hid (w7.heap[bp]? = some (.cells #[.int .i64 (d : Int), .slice pq p.src.length pc] 78 (0, 0))) := hidI (by rw [hw7, hbp]; exact heap_step (heap_here wr _))
         have HS7 : Hid (w7.heap[bp + 1]? = some (.cells #[.int .i64 0, .int .i64 0, .bool false] 74 (0, 0))) := hidI (by rw [hw7, hbp]; exact heap_at (by simp))
         have z67 := HK.out.size
         rw [← hbp] at zO zA zX zT zw z67 ⊢
         have hX0 := HW.out.hX
         clear hw7 hw7b hbp HW HK d0 d1 hzp
         go_loopg [53] p.src.length (fun q s53 wr => ∃ (i : Nat) (s : Spn), i ≤ p.src.length ∧ q = p.src.length - i ∧ s53 = .int .i64 i ∧ wr.heap[bp + 1]? = some (.cells #[.int .i64 s.lo, .int .i64 s.hi, .bool s.has] 74 (0, 0)) ∧ Kept (fun k => k = bp + 1) w7 wr ∧ (p.src.drop i).foldl (fun s v => joinS s (vlS l2 v)) s = phS l2 p.src)
         case atStart => exact ⟨0, noS', by omega, rfl, rfl, HS7.out, Kept.refl _ _, by rw [List.drop_zero]; rfl⟩
         case round =>
          obtain ⟨i, s, hi, rfl, rfl, hSb, hK, hfs⟩ := hrel
          have HSb := hidI hSb
          have HK := hidI hK
          have HFs := hidI hfs
          have HW : Hid (SpW w fv R (w.heap.size + 1 + 1) (w.heap.size + 1) T A l2 t ag2 wr) := hidI (HW7.out.other hK fun i hi => by subst hi; refine ⟨?_, ?_, ?_, ?_, ?_⟩ <;> omega)
          clear hSb hK hfs HS7
          by_cases hil : i < p.src.length
          ·obtain ⟨vb, vo, hpq, v0, v1, h64⟩ := valGet HSrc.out HW.out.below hil
           subst hpq
           have hvR := (HIt.out.2 _ (List.getElem_mem hil)).2
           rw [HRn.out] at hvR
           have hfs := HFs.out
           rw [List.drop_eq_getElem_cons hil, List.foldl_cons] at hfs
           have HFs2 := hidI hfs
           have HvR := hidI hvR
           clear hfs hvR HFs h64
           generalize p.src[i] = v at *
           obtain ⟨vr, vn⟩ := v
           simp only at v0 v1
           have zv := lt_of_cell v0
           have zs := ltHeap HSb.out
           go_wp2_with fail
           obtain ⟨w8, hw8⟩ : ∃ w8, w8 = wr.alloc (.cells #[.bool vr, .int .i64 vn] 45) := ⟨_, rfl⟩
           rw [← hw8]
           have hw8b : Below wr.heap.size wr w8 := by rw [hw8]; repeat (first | (with_reducible first | exact bR _ _ | exact bH ‹_› | refine bD ?_ | refine bN ?_ _ | refine bS ?_ ?_ _ | refine bA ?_ ?_ _ | refine bT hb3 ?_ ?_ | refine bT hb5 ?_ ?_ | refine bT hb4 ?_ ?_) | omega | (simp; omega) | simp)
           obtain ⟨bv, hbv⟩ : ∃ bv, bv = wr.heap.size := ⟨_, rfl⟩
           have HV8 : Hid (w8.heap[bv]? = some (.cells #[.bool vr, .int .i64 vn] 45 (0, 0))) := hidI (by rw [hw8, hbv]; exact heap_here wr _)
           have HS8 := hidI ((hw8b.block _ zs).trans HSb.out)
           have HW8 := hidI (HW.out.next hw8b)
           have HK8 := hidI (HK.out.trans (Kept.of_below (S := fun _ => False) hw8b) (fun _ _ h => h.elim))
           rw [← hbv]
           have HAll := hidI (show ∀ w', Below w8.heap.size w8 w' → w'.cell? ⟨bv, 0, none⟩ = some (.bool vr) ∧ w'.cell? ⟨bv, 1, none⟩ = some (.int .i64 vn) ∧ w'.cell? ⟨bp + 1, 0, none⟩ = some (.int .i64 s.lo) ∧ w'.cell? ⟨bp + 1, 1, none⟩ = some (.int .i64 s.hi) ∧ w'.cell? ⟨bp + 1, 2, none⟩ = some (.bool s.has) from fun w' h => by
            have h1 := (h.block _ (ltHeap HV8.out)).trans HV8.out
            have h2 := (h.block _ (ltHeap HS8.out)).trans HS8.out
            exact ⟨(blk h1).1 0, (blk h1).1 1, (blk h2).1 0, (blk h2).1 1, (blk h2).1 2⟩)
           clear hw8 hw8b hbv HW HK HSb v0 v1 zv zs
           refine wp_region_calm (S := fun w' => Below w8.heap.size w8 w') (by kernel_rfl) 5 ?_
           obtain ⟨y0, hy0⟩ : ∃ y0, y0 = w8.drew := ⟨_, rfl⟩
           have hb0 : Below w8.heap.size w8 y0 := by rw [hy0]; exact (Below.refl _ _).drew
           rw [← hy0]
           clear hy0
           refine takeZ 0 57 (.agg #[.int .i64 s.lo, .int .i64 s.hi, .bool s.has]) rfl rfl (by kernel_rfl) (by kernel_rfl) (by kernel_rfl) (by kernel_rfl) (fun _ _ _ h => h) (Or.inl ⟨by rfl, fun w' h => ?_⟩) hb0 ?_
           ·obtain ⟨h1, h2, h3, h4, h5⟩ := HAll.out w' h
            go_simp
           refine takeZ 1 58 (.func (.func 49) #[] #[.pointer (some ⟨w.heap.size + 1 + 1, 0, none⟩)]) rfl rfl (by kernel_rfl) (by kernel_rfl) (by kernel_rfl) (by kernel_rfl) (fun _ _ _ h => h) (Or.inl ⟨by rfl, fun w' h => ?_⟩) hb0 ?_
           ·obtain ⟨h1, h2, h3, h4, h5⟩ := HAll.out w' h
            go_simp
           refine takeZ 2 59 (.agg #[.bool vr, .int .i64 vn]) rfl rfl (by kernel_rfl) (by kernel_rfl) (by kernel_rfl) (by kernel_rfl) (fun _ _ _ h => h) (Or.inl ⟨by rfl, fun w' h => ?_⟩) hb0 ?_
           ·obtain ⟨h1, h2, h3, h4, h5⟩ := HAll.out w' h
            go_simp
           refine stepZ_1 (i := 3) (by kernel_rfl) (stepZ_callTo 60 rfl rfl rfl (by go_simp) (val_at (HW8.out.next hb0) (by omega) (r := vr) (m := vn) HvR.out) ?_)
           rintro e y1 ⟨rfl, hb1'⟩
           have hb1 : Below w8.heap.size w8 y1 := hb0.trans (hb1'.mono hb0.size)
           clear hb1'
           refine ⟨_, rfl, hb1, ?_⟩
           refine stepZ_1 (i := 4) (by kernel_rfl) (stepZ_callTo 61 rfl rfl rfl (by go_simp) (join_at s (vlS l2 (vr, vn)) y1) ?_)
           rintro e y2 ⟨rfl, hb2'⟩
           have hb2 : Below w8.heap.size w8 y2 := hb1.trans (hb2'.mono hb1.size)
           clear hb2' hb1 hb0
           refine ⟨_, rfl, hb2, ?_⟩
           obtain ⟨sn, hsn⟩ : ∃ sn, sn = joinS s (vlS l2 (vr, vn)) := ⟨_, rfl⟩
           rw [← hsn] at HFs2 ⊢
           clear hsn
           have hS2 := (hb2.block _ (ltHeap HS8.out)).trans HS8.out
           have z2 := ltHeap hS2
           have c0 := (blk hS2).1 0
           have c1 := (blk hS2).1 1
           have c2 := (blk hS2).1 2
           have cf := (blk hS2).2
           simp only [List.getElem?_toArray, List.getElem?_cons_zero, List.getElem?_cons_succ] at c0 c1 c2
           obtain ⟨y3, hy3⟩ : ∃ y3, y3 = ((y2.setCell ⟨bp + 1, 0, none⟩ (.int .i64 sn.lo)).setCell ⟨bp + 1, 1, none⟩ (.int .i64 sn.hi)).setCell ⟨bp + 1, 2, none⟩ (.bool sn.has) := ⟨_, rfl⟩
           refine stepZ_1 (i := 5) (by kernel_rfl) (stepZ_skipNo y3 rfl rfl rfl (by rw [hy3]; go_simp) (fun h => absurd rfl h) (wpAnyZ_done (by kernel_rfl) ?_ _))
           have HS3 : Hid (y3.heap[bp + 1]? = some (.cells #[.int .i64 sn.lo, .int .i64 sn.hi, .bool sn.has] 74 (0, 0))) := hidI (by
            rw [hy3, row_set (row_set (row_set hS2 0 _) 1 _) 2 _]
            rfl)
           have HK3 : Hid (Kept (fun k => k = bp + 1) w7 y3) := hidI (by
            rw [hy3]
            exact (((HK8.out.trans (Kept.of_below (S := fun _ => False) hb2) (fun _ _ h => h.elim)).setCell (p := ⟨bp + 1, 0, none⟩) rfl _).setCell (p := ⟨bp + 1, 1, none⟩) rfl _).setCell (p := ⟨bp + 1, 2, none⟩) rfl _)
           clear hy3 hS2 z2 c0 c1 c2 cf hb2
           simp only [calm]
           go_simp
           go_wp2_with fail
           go_roundg (p.src.length - (i + 1))
           case measure => omega
           case rel => exact ⟨i + 1, sn, by omega, rfl, by go_num, HS3.out, HK3.out, HFs2.out⟩
          ·obtain rfl : i = p.src.length := by omega
           have hs : s = phS l2 p.src := by
            have h := HFs.out
            rw [List.drop_length] at h
            exact h
           have hit := itS_phi (t := t) (l := l2) (ag := ag2) Hd.out hs
           have hOk3 := HO2.out.it (turn := t) (s := (l2, ag2)) HIt.out
           have hff := HFF.out
           rw [hit] at hOk3 hff
           have HOk3 := hidI hOk3
           have HFF2 := hidI hff
           clear hs hit hOk3 hff HFs HFF HIt
           have hPb := (HK.out.block _ (ltHeap HP7.out) (by omega)).trans HP7.out
           have p0 := (blk hPb).1 0
           have zp := ltHeap hPb
           have s0 := (blk HSb.out).1 0
           have s1 := (blk HSb.out).1 1
           have s2 := (blk HSb.out).1 2
           have zs := ltHeap HSb.out
           simp only [List.getElem?_toArray, List.getElem?_cons_zero, List.getElem?_cons_succ] at p0 s0 s1 s2
           clear hPb
           go_wp2_with fail
           refine (put_at HW.out (by omega) (by omega) hdR s).mono ?_
           rintro e w12 ⟨rfl, hW12, hK12⟩
           have HW12 := hidI hW12
           have HK12 : Hid (Kept (fun k => k = (w.heap.size + 1) ∨ k = A) w6 w12) := hidI ((HK7.out.trans HK.out (fun k hk e => by omega)).trans hK12 (fun _ _ h => h))
           clear hW12 hK12 p0 zp s0 s1 s2 zs
           go_wp2_with fail
           go_roundg (B.phis.length - (j + 1))
           case measure => omega
           case rel => exact ⟨j + 1, putSp t l2 d s, ag2 || chgS l2 d s, by omega, rfl, by go_num, HW12.out, HOk3.out, HK12.out, HFF2.out⟩
        ·obtain rfl : j = B.phis.length := by omega
         have hst : (B.phis.map ItS.phi).foldl (itS t) (l', ag') = (l2, ag2) := by
          have h := HF2.out
          rw [List.drop_length] at h
          exact h.symm
         have hfo3 := HFo2.out
         rw [show itsB B = B.phis.map ItS.phi ++ B.list.map ItS.ins from rfl, List.foldl_append, hst] at hfo3
         have HFo3 := hidI hfo3
         clear hst HF2 hfo3 HFo2
         have hBr := (HK.out.block _ (ltHeap HBx.out) (fun e => e.elim hxO hxA)).trans HBx.out
         have b1 := (blk hBr).1 1
         have zb := ltHeap hBr
         simp only [List.getElem?_toArray, List.getElem?_cons_zero, List.getElem?_cons_succ] at b1
         clear hBr
         go_wp2_with fail
         obtain ⟨w9, rfl⟩ : ∃ w9 : World, w9 = wr := ⟨_, rfl⟩
         clear b1 zb HBx HK hxO hxA
         go_loopg [72] B.list.length (fun q s72 wr => ∃ (j : Nat) (l3 : Nat → Spn) (ag3 : Bool), j ≤ B.list.length ∧ q = B.list.length - j ∧ s72 = .int .i64 j ∧ SpW w fv R (w.heap.size + 1 + 1) (w.heap.size + 1) T A l3 t ag3 wr ∧ OkS l3 ∧ ((B.list.drop j).map ItS.ins).foldl (itS t) (l3, ag3) = (B.list.map ItS.ins).foldl (itS t) (l2, ag2))
         case atStart => exact ⟨0, l2, ag2, by omega, rfl, rfl, HW.out, HO2.out, by rw [List.drop_zero]⟩
         case round =>
          clear HW HO2
          obtain ⟨j, l3, ag3, hj, rfl, rfl, hW, hO3, hf3⟩ := hrel
          have HW := hidI hW
          have HO3 := hidI hO3
          have HF3 := hidI hf3
          clear hW hO3 hf3
          by_cases hjl : j < B.list.length
          ·obtain ⟨ib, io, pq, pc, hiq, i0, i1, i2, i3, i4, i5, i6, i7, _, _, _, _, _, _, _⟩ := insGet HIn.out (Below.refl _ _) hjl
           subst hiq
           replace i0 := (HW.out.below.cell (p := ⟨ib, io + j * 8, none⟩) (lt_of_cell i0)).trans i0
           replace i1 := (HW.out.below.cell (p := ⟨ib, io + j * 8 + 1, none⟩) (lt_of_cell i1)).trans i1
           replace i2 := (HW.out.below.cell (p := ⟨ib, io + j * 8 + 2, none⟩) (lt_of_cell i2)).trans i2
           replace i3 := (HW.out.below.cell (p := ⟨ib, io + j * 8 + 3, none⟩) (lt_of_cell i3)).trans i3
           replace i4 := (HW.out.below.cell (p := ⟨ib, io + j * 8 + 4, none⟩) (lt_of_cell i4)).trans i4
           replace i5 := (HW.out.below.cell (p := ⟨ib, io + j * 8 + 5, none⟩) (lt_of_cell i5)).trans i5
           replace i6 := (HW.out.below.cell (p := ⟨ib, io + j * 8 + 6, none⟩) (lt_of_cell i6)).trans i6
           replace i7 := (HW.out.below.cell (p := ⟨ib, io + j * 8 + 7, none⟩) (lt_of_cell i7)).trans i7
           have hzi := lt_of_cell i0
           have hIt : ItOk f.regs.toNat (.ins B.list[j]) := HMem.out _ (List.mem_append_right _ (List.mem_map_of_mem (List.getElem_mem hjl)))
           have hff := HF3.out
           rw [List.drop_eq_getElem_cons hjl, List.map_cons, List.foldl_cons] at hff
           have HFF := hidI hff
           have HIt := hidI hIt
           clear hff hIt HF3
           generalize B.list[j] = x at *
           by_cases hneg : x.dst < 0
           ·have hff := HFF.out
            rw [itS_no hneg] at hff
            have HFF2 := hidI hff
            have hge : decide (0 ≤ x.dst) = false := by simp; omega
            clear hff HFF
            go_wp2_with fail
            go_roundg (B.list.length - (j + 1))
            case measure => omega
            case rel => exact ⟨j + 1, l3, ag3, by omega, rfl, by go_num, HW.out.next (by repeat (first | (with_reducible first | exact bR _ _ | exact bH ‹_› | refine bD ?_ | refine bN ?_ _ | refine bS ?_ ?_ _ | refine bA ?_ ?_ _ | refine bT hb3 ?_ ?_ | refine bT hb5 ?_ ?_ | refine bT hb4 ?_ ?_) | omega | (simp; omega) | simp)), HO3.out, HFF2.out⟩
           ·obtain ⟨d, hd⟩ : ∃ d : Nat, x.dst = d := ⟨x.dst.toNat, by omega⟩
            have hIt2 := HIt.out
            obtain ⟨g1, g2, g3, _, _, ga, gb⟩ := hIt2
            have hdR : d < R := by have h2 := HRn.out; omega
            rw [HRn.out] at ga gb
            have Hga := hidI ga
            have Hgb := hidI gb
            have hvo : SpOk (vlS l3 (x.ar, x.an)) := HO3.out.vl (by assumption)
            have hvp : SpOk (vlS l3 (x.br, x.bn)) := HO3.out.vl (by assumption)
            have Hvo := hidI hvo
            have Hvp := hidI hvp
            have hit := itS_ins (t := t) (l := l3) (ag := ag3) hd rfl
            have hOk3 := HO3.out.it (turn := t) (s := (l3, ag3)) HIt.out
            have hff := HFF.out
            rw [hit] at hOk3 hff
            have HOk4 := hidI hOk3
            have HFF2 := hidI hff
            rw [hd] at i1
            clear hit hOk3 hff HFF HIt hneg ga gb hvo hvp hd
            go_wp2_with fail
            obtain ⟨w8, hw8⟩ : ∃ w8, w8 = wr.alloc (.cells #[.int .i64 x.op, .int .i64 (d : Int), .bool x.ar, .int .i64 x.an, .bool x.br, .int .i64 x.bn, .int .i64 x.fn, .slice pq x.args.length pc] 53) := ⟨_, rfl⟩
            rw [← hw8]
            have hw8b : Below wr.heap.size wr w8 := by rw [hw8]; repeat (first | (with_reducible first | exact bR _ _ | exact bH ‹_› | refine bD ?_ | refine bN ?_ _ | refine bS ?_ ?_ _ | refine bA ?_ ?_ _ | refine bT hb3 ?_ ?_ | refine bT hb5 ?_ ?_ | refine bT hb4 ?_ ?_) | omega | (simp; omega) | simp)
            obtain ⟨bi, hbi⟩ : ∃ bi, bi = wr.heap.size := ⟨_, rfl⟩
            have HI8 : Hid (w8.heap[bi]? = some (.cells #[.int .i64 x.op, .int .i64 (d : Int), .bool x.ar, .int .i64 x.an, .bool x.br, .int .i64 x.bn, .int .i64 x.fn, .slice pq x.args.length pc] 53 (0, 0))) := hidI (by rw [hw8, hbi]; exact heap_here wr _)
            have zA := ltHeap HW.out.a
            have zO := HW.out.o.lt
            have HW8 := hidI (HW.out.next hw8b)
            rw [← hbi] at zA zO ⊢
            have HAll := hidI (show ∀ w' : World, w'.heap[bi]? = some (.cells #[.int .i64 x.op, .int .i64 (d : Int), .bool x.ar, .int .i64 x.an, .bool x.br, .int .i64 x.bn, .int .i64 x.fn, .slice pq x.args.length pc] 53 (0, 0)) → w'.cell? ⟨bi, 0, none⟩ = some (.int .i64 x.op) ∧ w'.cell? ⟨bi, 1, none⟩ = some (.int .i64 (d : Int)) ∧ w'.cell? ⟨bi, 2, none⟩ = some (.bool x.ar) ∧ w'.cell? ⟨bi, 3, none⟩ = some (.int .i64 x.an) ∧ w'.cell? ⟨bi, 4, none⟩ = some (.bool x.br) ∧ w'.cell? ⟨bi, 5, none⟩ = some (.int .i64 x.bn) from fun w' h =>
             ⟨(blk h).1 0, (blk h).1 1, (blk h).1 2, (blk h).1 3, (blk h).1 4, (blk h).1 5⟩)
            clear hw8 hw8b hbi HW i0 i1 i2 i3 i4 i5 i6 i7 hzi
            refine wp_region_calm (S := fun w' => w'.heap[bi]? = some (.cells #[.int .i64 x.op, .int .i64 (d : Int), .bool x.ar, .int .i64 x.an, .bool x.br, .int .i64 x.bn, .int .i64 x.fn, .slice pq x.args.length pc] 53 (0, 0))) (by kernel_rfl) 15 ?_
            obtain ⟨y0, hy0⟩ : ∃ y0, y0 = w8.drew := ⟨_, rfl⟩
            have hb0 : Below w8.heap.size w8 y0 := by rw [hy0]; exact (Below.refl _ _).drew
            rw [← hy0]
            clear hy0
            have hs0 := (hb0.block _ (ltHeap HI8.out)).trans HI8.out
            refine takeF 0 79 (.func (.func 51) #[] #[.pointer (some ⟨w.heap.size + 1 + 1, 0, none⟩), .pointer (some ⟨A, 0, none⟩), .pointer (some ⟨T, 0, none⟩)]) rfl rfl (Nat.le_refl _) (by kernel_rfl) (by kernel_rfl) (by kernel_rfl) (fun _ _ _ h => h) (Or.inl ⟨by rfl, fun w' h => ?_⟩) hs0 ?_
            ·obtain ⟨h1, h2, h3, h4, h5, h6⟩ := HAll.out w' h
             go_simp
            refine takeF 1 80 (.pointer (some ⟨bi, 1, none⟩)) rfl rfl (Nat.le_refl _) (by kernel_rfl) (by kernel_rfl) (by kernel_rfl) (fun _ _ _ h => h) (Or.inl ⟨by rfl, fun w' h => ?_⟩) hs0 ?_
            ·obtain ⟨h1, h2, h3, h4, h5, h6⟩ := HAll.out w' h
             go_simp
            refine takeF 2 81 (.int .i64 (d : Int)) rfl rfl (Nat.le_refl _) (by kernel_rfl) (by kernel_rfl) (by kernel_rfl) (fun _ _ _ h => h) (Or.inl ⟨by rfl, fun w' h => ?_⟩) hs0 ?_
            ·obtain ⟨h1, h2, h3, h4, h5, h6⟩ := HAll.out w' h
             go_simp
            refine takeF 3 82 (.pointer (some ⟨bi, 0, none⟩)) rfl rfl (Nat.le_refl _) (by kernel_rfl) (by kernel_rfl) (by kernel_rfl) (fun _ _ _ h => h) (Or.inl ⟨by rfl, fun w' h => ?_⟩) hs0 ?_
            ·obtain ⟨h1, h2, h3, h4, h5, h6⟩ := HAll.out w' h
             go_simp
            refine takeF 4 83 (.int .i64 x.op) rfl rfl (Nat.le_refl _) (by kernel_rfl) (by kernel_rfl) (by kernel_rfl) (fun _ _ _ h => h) (Or.inl ⟨by rfl, fun w' h => ?_⟩) hs0 ?_
            ·obtain ⟨h1, h2, h3, h4, h5, h6⟩ := HAll.out w' h
             go_simp
            refine takeF 5 84 (.func (.func 49) #[] #[.pointer (some ⟨w.heap.size + 1 + 1, 0, none⟩)]) rfl rfl (Nat.le_refl _) (by kernel_rfl) (by kernel_rfl) (by kernel_rfl) (fun _ _ _ h => h) (Or.inl ⟨by rfl, fun w' h => ?_⟩) hs0 ?_
            ·obtain ⟨h1, h2, h3, h4, h5, h6⟩ := HAll.out w' h
             go_simp
            refine takeF 6 85 (.pointer (some ⟨bi, 2, none⟩)) rfl rfl (Nat.le_refl _) (by kernel_rfl) (by kernel_rfl) (by kernel_rfl) (fun _ _ _ h => h) (Or.inl ⟨by rfl, fun w' h => ?_⟩) hs0 ?_
            ·obtain ⟨h1, h2, h3, h4, h5, h6⟩ := HAll.out w' h
             go_simp
            refine takeF 7 86 (.agg #[.bool x.ar, .int .i64 x.an]) rfl rfl (Nat.le_refl _) (by kernel_rfl) (by kernel_rfl) (by kernel_rfl) (fun _ _ _ h => h) (Or.inl ⟨by rfl, fun w' h => ?_⟩) hs0 ?_
            ·obtain ⟨h1, h2, h3, h4, h5, h6⟩ := HAll.out w' h
             go_simp
            refine takeF 9 88 (.func (.func 49) #[] #[.pointer (some ⟨w.heap.size + 1 + 1, 0, none⟩)]) rfl rfl (Nat.le_refl _) (by kernel_rfl) (by kernel_rfl) (by kernel_rfl) (fun _ _ _ h => h) (Or.inl ⟨by rfl, fun w' h => ?_⟩) hs0 ?_
            ·obtain ⟨h1, h2, h3, h4, h5, h6⟩ := HAll.out w' h
             go_simp
            refine takeF 10 89 (.pointer (some ⟨bi, 4, none⟩)) rfl rfl (Nat.le_refl _) (by kernel_rfl) (by kernel_rfl) (by kernel_rfl) (fun _ _ _ h => h) (Or.inl ⟨by rfl, fun w' h => ?_⟩) hs0 ?_
            ·obtain ⟨h1, h2, h3, h4, h5, h6⟩ := HAll.out w' h
             go_simp
            refine takeF 11 90 (.agg #[.bool x.br, .int .i64 x.bn]) rfl rfl (Nat.le_refl _) (by kernel_rfl) (by kernel_rfl) (by kernel_rfl) (fun _ _ _ h => h) (Or.inl ⟨by rfl, fun w' h => ?_⟩) hs0 ?_
            ·obtain ⟨h1, h2, h3, h4, h5, h6⟩ := HAll.out w' h
             go_simp
            refine stepZ_1 (i := 8) (by kernel_rfl) (stepZ_callTo 87 rfl rfl rfl (by go_simp) (val_at (HW8.out.next hb0) (by omega) (r := x.ar) (m := x.an) Hga.out) ?_)
            rintro e y1 ⟨rfl, hb1'⟩
            have hb1 : Below w8.heap.size w8 y1 := hb0.trans (hb1'.mono hb0.size)
            have hs1 := (hb1.block _ (ltHeap HI8.out)).trans HI8.out
            clear hb1'
            refine ⟨_, rfl, hs1, ?_⟩
            refine stepZ_1 (i := 12) (by kernel_rfl) (stepZ_callTo 91 rfl rfl rfl (by go_simp) (val_at (HW8.out.next hb1) (by omega) (r := x.br) (m := x.bn) Hgb.out) ?_)
            rintro e y2 ⟨rfl, hb2'⟩
            have hb2 : Below w8.heap.size w8 y2 := hb1.trans (hb2'.mono hb1.size)
            have hs2 := (hb2.block _ (ltHeap HI8.out)).trans HI8.out
            clear hb2' hb1 hb0 hs0 hs1
            refine ⟨_, rfl, hs2, ?_⟩
            refine stepZ_1 (i := 13) (by kernel_rfl) (stepZ_callTo 92 rfl rfl rfl (by go_simp) (makes_at x.op (vlS l3 (x.ar, x.an)) (vlS l3 (x.br, x.bn)) y2 ⟨g2, g3⟩ Hvo.out Hvp.out (HA.out.below ((HW8.out.next hb2).below))) ?_)
            rintro e y3 ⟨rfl, hb3'⟩
            have hb3 : Below w8.heap.size w8 y3 := hb2.trans (hb3'.mono hb2.size)
            have hs3 := (hb3.block _ (ltHeap HI8.out)).trans HI8.out
            clear hb3' hb2 hs2
            refine ⟨_, rfl, hs3, ?_⟩
            obtain ⟨sn, hsn⟩ : ∃ sn, sn = makS x.op (vlS l3 (x.ar, x.an)) (vlS l3 (x.br, x.bn)) := ⟨_, rfl⟩
            rw [← hsn] at HFF2 HOk4 ⊢
            clear hsn
            refine stepZ_1 (i := 14) (by kernel_rfl) (stepZ_callTo 93 rfl rfl rfl (by go_simp) (put_at (HW8.out.next hb3) (by omega) (by omega) hdR sn) ?_)
            rintro e y4 ⟨rfl, hW4, hK4⟩
            have hs4 := (hK4.block _ (ltHeap hs3) (fun e => by omega)).trans hs3
            have HW4 := hidI hW4
            clear hs3 hb3 hW4 hK4
            refine ⟨_, rfl, hs4, wpAnyZ_done (by kernel_rfl) ?_ _⟩
            clear hs4
            simp only [calm]
            go_simp
            go_wp2_with fail
            go_roundg (B.list.length - (j + 1))
            case measure => omega
            case rel => exact ⟨j + 1, putSp t l3 d sn, ag3 || chgS l3 d sn, by omega, rfl, by go_num, HW4.out, HOk4.out, HFF2.out⟩
          ·obtain rfl : j = B.list.length := by omega
           have hfo4 := HFo3.out
           rw [show (B.list.map ItS.ins).foldl (itS t) (l2, ag2) = (l3, ag3) from by
            have h := HF3.out
            rw [List.drop_length] at h
            exact h.symm] at hfo4
           have HFo4 := hidI hfo4
           clear hfo4 HFo3 HF3
           go_wp2_with fail
           go_roundg (f.blocks.length - (k + 1))
           case measure => omega
           case rel => exact ⟨k + 1, l3, ag3, by omega, rfl, by go_num, HW.out, HO3.out, HFo4.out⟩
      ·obtain rfl : k = f.blocks.length := by omega
       have hst : rndS f t l = (l', ag') := by
        have h := HFo.out
        rw [List.drop_length] at h
        exact h.symm
       have HST := hidI hst
       clear hst HFo
       have x0 := (blk HW.out.x).1 0
       have zx := ltHeap HW.out.x
       simp only [List.getElem?_toArray, List.getElem?_cons_zero] at x0
       have t0 := (blk HW.out.t).1 0
       have tf := (blk HW.out.t).2
       have zt := ltHeap HW.out.t
       simp only [List.getElem?_toArray, List.getElem?_cons_zero] at t0
       have a0 := (blk HW.out.a).1 0
       have af := (blk HW.out.a).2
       have za := ltHeap HW.out.a
       simp only [List.getElem?_toArray, List.getElem?_cons_zero] at a0
       cases ag' with
       | false =>
        have HLa := hidI (HL.out.last HOk.out (by rw [HST.out]))
        have hl' : l' = spnF f := by
         have h1 := ((rnd_step HOk.out t HL.out.ok).flag (by rw [HST.out])).2
         have h2 := HST.out
         rw [h2] at h1
         exact h1.trans HLa.out
        have HL' := hidI hl'
        clear hl' HLa
        go_wp2_with fail
        go_roundg (0)
        case measure => omega
        case rel => exact ⟨t + 1, l', false, _, _, rfl, rfl, HW.out.turn, HOl'.out, (fun h => by cases h), fun _ => ⟨HL'.out, rfl⟩⟩
       | true =>
        have HN := hidI (HL.out.next HOk.out (by rw [HST.out]))
        have HN2 : Hid (LeftS f (t + 1) l' kr) := hidI (by have h := HN.out; rw [HST.out] at h; exact h)
        clear HN
        go_wp2_with fail
        go_roundg kr
        case measure => omega
        case rel => exact ⟨t + 1, l', true, _, _, rfl, rfl, HW.out.turn, HOl'.out, fun _ => ⟨HN2.out, by omega⟩, fun h => by cases h⟩
end Go.Proofs.YtdjamkinijhjoaaDoor
