/-
  The contract of the reference's SpansOf.
-/
import Derived.WalkKit
import Derived.WalkSpells
import Derived.WalkLawsBesides
import Derived.Test.YtdjamkinijhjoaaDoorSpnW
import Derived.Test.YtdjamkinijhjoaaDoorJDomE
import Derived.Test.YtdjamkinijhjoaaDoorSpnJ
namespace Go.Proofs.YtdjamkinijhjoaaDoor
open Go.RowKit Go.Shelf

theorem infoSpanR : (Tryd.prog.info? 40).map (fun i => (i.zero, i.size, i.bytes)) = some (some (.agg #[.int .i64 0, .int .i64 0, .bool false]), 3, 24) := by kernel_rfl
theorem underSpansR : Tryd.prog.underlying 33 = some (.slice 40) := by kernel_rfl
theorem rowSpanR (w : World) (n : Nat) : (w.alloc (.cells (madeCells #[.int .i64 0, .int .i64 0, .bool false] (n * 3)) 40)).rowIs w.heap.size 40 (n * 3) (spF (initP 0)) :=
  ⟨_, heap_here w _, by rw [size_madeCells], fun i hi => by
    have h3 : i % 3 = 0 ∨ i % 3 = 1 ∨ i % 3 = 2 := by omega
    rcases h3 with h3 | h3 | h3 <;> simp [madeCells, hi, h3, spF, initP, noS']⟩
theorem run_neSpanR (a b a' b' : Int) (c c' : Bool) (w : World) :
    (binOp .neq 40 (.agg #[.int .i64 a, .int .i64 b, .bool c]) (.agg #[.int .i64 a', .int .i64 b', .bool c'])).run Tryd.prog w = .ok (.bool (!(a == a' && b == b' && c == c'))) w := by
  by_cases h1 : a = a' <;> by_cases h2 : b = b' <;> cases c <;> cases c' <;> simp [go_sem, h1, h2]
/-- a register's interval is another one just where the join is another one -/
theorem new_chg {turn : Nat} {a b : Spn} (ha : SpOk a) (hb : SpOk b) : eqS (newS turn a b) a = eqS (joinS a b) a := by
  cases he : eqS (joinS a b) a
  · refine eqS_no fun h => ?_
    by_cases h2 : 2 < turn
    · have h3 := new_rank h2 ha hb he
      rw [h] at h3
      omega
    · unfold newS at h
      rw [he, if_neg (by simp)] at h
      unfold widS at h
      rw [if_neg (fun g => h2 g.1)] at h
      rw [eqS_iff.2 h] at he
      cases he
  · rw [newS_same he]
    exact eqS_iff.2 rfl
theorem run_chg {turn : Nat} {l : Nat → Spn} {d : Nat} {s : Spn} (ha : SpOk (l d)) (hb : SpOk s) (w : World) :
    (binOp .neq 40 (.agg #[.int .i64 (newS turn (l d) s).lo, .int .i64 (newS turn (l d) s).hi, .bool (newS turn (l d) s).has]) (.agg #[.int .i64 (l d).lo, .int .i64 (l d).hi, .bool (l d).has])).run Tryd.prog w = .ok (.bool (chgS l d s)) w := by
  rw [run_neSpanR]
  unfold chgS
  rw [← new_chg (turn := turn) ha hb]
  rfl

/-- the world within SpansOf -/
structure SqW (w : World) (fv : Array Value) (R O : Nat) (l : Nat → Spn) (W : World) : Prop where
  below : Below w.heap.size w W
  fb : W.heap[w.heap.size]? = some (.cells fv 37 (0, 0))
  o : W.rowIs O 40 (R * 3) (spF l)
  hO : w.heap.size < O
theorem SqW.next {w : World} {fv : Array Value} {R O : Nat} {l : Nat → Spn} {W W' : World} (h : SqW w fv R O l W) (hb : Below W.heap.size W W') : SqW w fv R O l W' :=
  { h with
    below := h.below.trans (hb.mono h.below.size)
    fb := (hb.block _ (ltHeap h.fb)).trans h.fb
    o := h.o.of_block (hb.block _ h.o.lt) }
/-- another block is written -/
theorem SqW.other {w : World} {fv : Array Value} {R O : Nat} {l : Nat → Spn} {W W' : World} {S : Blks} (h : SqW w fv R O l W) (hk : Kept S W W') (hS : ∀ i, S i → w.heap.size < i ∧ i ≠ O) : SqW w fv R O l W' :=
  { h with
    below := h.below.trans (hk.below h.below.size fun i hi => Nat.le_of_lt (hS i hi).1)
    fb := (hk.block _ (ltHeap h.fb) (fun e => by have := (hS _ e).1; omega)).trans h.fb
    o := h.o.of_block (hk.block _ h.o.lt (fun e => (hS _ e).2 rfl)) }
theorem SqW.put {w : World} {fv : Array Value} {R O : Nat} {l : Nat → Spn} {W W' : World} (h : SqW w fv R O l W) {l' : Nat → Spn} (hr : W'.rowIs O 40 (R * 3) (spF l')) (hk : Kept (fun k => k = O) W W') : SqW w fv R O l' W' :=
  { h with
    below := h.below.trans (hk.below h.below.size fun i hi => by subst hi; exact Nat.le_of_lt h.hO)
    fb := (hk.block _ (ltHeap h.fb) (fun e => by have := h.hO; omega)).trans h.fb
    o := hr }
set_option maxRecDepth 100000 in
set_option maxHeartbeats 16000000 in
theorem spansOf_aux (f : FunL) (P R : Nat) (nm : ByteArray) (fp : Option Addr) (fc : Nat) (w : World) (hP : Hid (f.params = P)) (hRR : Hid (f.regs = R)) (hS : FunR' f) (hF : SliceAt w 6 (BlkR w) fp f.blocks) :
    Calls Tryd.prog 12 #[.agg #[.string nm, .int .i64 P, .int .i64 R, .slice fp f.blocks.length fc]] w fun e w' => ∃ O, e = .returned (.slice (some ⟨O, 0, none⟩) R R) ∧ w.heap.size ≤ O ∧ w'.rowIs O 40 (R * 3) (spF (spnF f)) ∧ Below w.heap.size w w' := by
  have hPR : P ≤ R := by have h1 := hS.par; have h2 := hP.out; have h3 := hRR.out; omega
  have hR100 : R ≤ 100 := by have h1 := hS.reg; have h3 := hRR.out; omega
  have n1 := hS.n1
  have n40 := hS.n40
  have HRn : Hid (f.regs.toNat = R) := hidI (by have h := hRR.out; omega)
  have HOk := hidI (funOk_of hS hF)
  have HF := hidI hF
  have HS := hidI hS
  have HI := hidI (show initS f = initP P from by
    funext r
    unfold initS initP
    rw [hP.out]
    by_cases h : r < P
    · rw [if_pos (by omega), if_pos h]
    · rw [if_neg (by omega), if_neg h])
  clear hS hF
  obtain ⟨i1, k1, k2, k3, k4⟩ := info_parts infoSpanR
  have hmk : ∀ w, (Instr.makeSlice 33 (.int .i64 (R : Int)) (.int .i64 (R : Int))).run Tryd.prog w = .ok (.slice (some ⟨w.heap.size, 0, none⟩) R R) (w.alloc (.cells (madeCells #[.int .i64 0, .int .i64 0, .bool false] (R * 3)) 40)) := fun w => by
    have hr := run_make (P := Tryd.prog) w 33 40 i1 _ underSpansR k1 k2 .i64 .i64 R R (by omega) (Int.le_refl _) (by rw [k4]; omega) (by omega)
    simp only [Int.toNat_natCast, k3] at hr
    exact hr
  clear k1 k2 k3 k4
  obtain ⟨fv, hfv⟩ : ∃ fv : Array Value, fv = #[.string nm, .int .i64 (P : Int), .int .i64 (R : Int), .slice fp f.blocks.length fc] := ⟨_, rfl⟩
  have HFv := hidI hfv
  clear hfv
  go_enter Tryd.func12, Tryd.ntmps12
  go_wp2_with fail
  rw [← HFv.out]
  obtain ⟨W2, hW2⟩ : ∃ W2, W2 = (w.alloc (.cells fv 37)).alloc (.cells (madeCells #[.int .i64 0, .int .i64 0, .bool false] (R * 3)) 40) := ⟨_, rfl⟩
  rw [← hW2]
  have HB2 := hidI (show Below w.heap.size w W2 by rw [hW2]; repeat (first | with_reducible exact Below.refl _ _ | with_reducible exact HB3.out | with_reducible refine Below.drew ?_ | with_reducible refine below_drewN ?_ _ | with_reducible refine Below.setCell ?_ ?_ _ | with_reducible refine Below.alloc ?_ ?_ _ | with_reducible exact HB2.out | with_reducible exact HB1.out | with_reducible refine Below.trans ?_ (Below.mono hb3 ?_) | with_reducible refine Below.trans ?_ (Below.mono hb5 ?_) | with_reducible refine Below.trans ?_ (Below.mono hb4 ?_) | omega | (simp; omega) | simp))
  have HF2 := hidI (show W2.heap[w.heap.size]? = some (.cells fv 37 (0, 0)) by rw [hW2]; exact heap_step (heap_here w _))
  have HO2 := hidI (show W2.rowIs (w.heap.size + 1) 40 (R * 3) (spF (initP 0)) by
    have h0 := rowSpanR (w.alloc (.cells fv 37)) R
    rw [show (w.alloc (.cells fv 37)).heap.size = w.heap.size + 1 from by simp] at h0
    rw [hW2]
    exact h0)
  clear hW2 hmk
  go_loopg [4] P (fun q s4 wr => ∃ k : Nat, k ≤ P ∧ q = P - k ∧ s4 = .int .i64 k ∧ wr.rowIs (w.heap.size + 1) 40 (R * 3) (spF (initP k)) ∧ Kept (fun b => b = (w.heap.size + 1)) W2 wr)
  case atStart => exact ⟨0, by omega, rfl, rfl, HO2.out, Kept.refl _ _⟩
  case round =>
    obtain ⟨k, hk, rfl, rfl, hR, hK⟩ := hrel
    have HR := hidI hR
    have HK := hidI hK
    clear hR hK HO2
    have HF3 := hidI ((HK.out.block _ (ltHeap HF2.out) (by omega)).trans HF2.out)
    have f1 := (blk HF3.out).1 1
    have zf := ltHeap HF3.out
    rw [HFv.out] at f1
    simp only [List.getElem?_toArray, List.getElem?_cons_zero, List.getElem?_cons_succ] at f1
    have HBr := hidI (HB2.out.trans (HK.out.below HB2.out.size fun i hi => by omega))
    by_cases hlt : k < P
    · have hkR : k < R := by omega
      have hO := HR.out.lt
      have c0 := HR.out.cell (i := k * 3) (by omega)
      have c1 := HR.out.cell (i := k * 3 + 1) (by omega)
      have c2 := HR.out.cell (i := k * 3 + 2) (by omega)
      have f0' := HR.out.frozen (k * 3)
      have f1' := HR.out.frozen (k * 3 + 1)
      have f2' := HR.out.frozen (k * 3 + 2)
      go_wp2_with (go_at_call 25; refine (rAll_any _).mono ?_; rintro e w1 ⟨rfl, rfl⟩)
      go_roundg (P - (k + 1))
      case measure => omega
      case rel => exact ⟨k + 1, by omega, rfl, by go_num, by rw [← initP_succ]; exact (spRow_set allS HR.out).alloc _, (((HK.out.setCell rfl _).setCell rfl _).setCell rfl _).alloc _⟩
    · obtain rfl : k = P := by omega
      have hI : Hid (wr.rowIs (w.heap.size + 1) 40 (R * 3) (spF (initS f))) := hidI (by rw [HI.out]; exact HR.out)
      obtain ⟨w3, hw3⟩ : ∃ w3, w3 = wr := ⟨_, rfl⟩
      subst hw3
      clear HR HK HF2 HB2 HI
      go_wp2_with fail
      clear f1 zf
      have HW4 : Hid (SqW w fv R (w.heap.size + 1) (initS f) w3) := hidI { below := HBr.out, fb := HF3.out, o := hI.out, hO := by omega }
      have HK0 : Hid (msS f.regs.toNat 0 (initS f) + 1 ≤ 2000) := hidI (by
        have h1 := rksS_le f.regs.toNat (initS f)
        have h2 := hRR.out
        unfold msS
        omega)
      clear hI HF3 HBr
      go_loopg [5, 6] (msS f.regs.toNat 0 (initS f) + 1) (fun q s5 s6 wr => ∃ (t : Nat) (l : Nat → Spn) (ag : Bool), s5 = .bool ag ∧ s6 = .int .i64 t ∧ SqW w fv R (w.heap.size + 1) l wr ∧ OkS l ∧ (ag = true → LeftS f t l q ∧ t + q ≤ 2000) ∧ (ag = false → l = spnF f ∧ q = 0))
      case atStart => exact ⟨0, initS f, true, rfl, rfl, HW4.out, OkS.init f, fun _ => ⟨LeftS.start f, by have := HK0.out; omega⟩, fun h => by cases h⟩
      case round =>
        obtain ⟨t, l, ag, rfl, rfl, hW, hOk, ht, hf⟩ := hrel
        have HW := hidI hW
        have HOl := hidI hOk
        clear hW hOk HW4 HK0
        cases ag with
        | false =>
          obtain ⟨rfl, rfl⟩ := hf rfl
          clear ht hf
          go_wp2_with fail
          go_ret
          exact ⟨_, rfl, by omega, HW.out.o, HW.out.below⟩
        | true =>
          obtain ⟨hL, h2000⟩ := ht rfl
          obtain ⟨kr, rfl⟩ : ∃ k, gk = k + 1 := ⟨gk - 1, by have := hL.fuel; omega⟩
          have HL := hidI hL
          clear hL ht hf
          go_wp2_with fail
          go_loopg [5, 7] f.blocks.length (fun q s5 s7 wr => ∃ (k : Nat) (l' : Nat → Spn) (ag' : Bool), k ≤ f.blocks.length ∧ q = f.blocks.length - k ∧ s5 = .bool ag' ∧ s7 = .int .i64 k ∧ SqW w fv R (w.heap.size + 1) l' wr ∧ OkS l' ∧ ((f.blocks.drop k).flatMap itsB).foldl (itS t) (l', ag') = rndS f t l)
          case atStart => exact ⟨0, l, false, by omega, rfl, rfl, rfl, HW.out, HOl.out, by rw [List.drop_zero]; rfl⟩
          case round =>
            obtain ⟨k, l', ag', hk, rfl, rfl, rfl, hW, hOk, hfold⟩ := hrel
            clear HW
            have HW := hidI hW
            have HOl' := hidI hOk
            have HFo := hidI hfold
            clear hW hOk hfold
            have f3 := (blk HW.out.fb).1 3
            have zf := ltHeap HW.out.fb
            rw [HFv.out] at f3
            simp only [List.getElem?_toArray, List.getElem?_cons_zero, List.getElem?_cons_succ] at f3
            by_cases hlt : k < f.blocks.length
            · obtain ⟨bb, bo, q1, c1, q2, c2, q3, c3, hfp, e0, e1, e2, e3, e4, e5, _, _, hl1, hl2, hl3, hPh, hIn, hTo⟩ := blkGet HF.out (Below.refl _ _) hlt
              subst hfp
              replace e0 := (HW.out.below.cell (p := ⟨bb, bo + k * 6, none⟩) (lt_of_cell e0)).trans e0
              replace e1 := (HW.out.below.cell (p := ⟨bb, bo + k * 6 + 1, none⟩) (lt_of_cell e1)).trans e1
              replace e2 := (HW.out.below.cell (p := ⟨bb, bo + k * 6 + 2, none⟩) (lt_of_cell e2)).trans e2
              replace e3 := (HW.out.below.cell (p := ⟨bb, bo + k * 6 + 3, none⟩) (lt_of_cell e3)).trans e3
              replace e4 := (HW.out.below.cell (p := ⟨bb, bo + k * 6 + 4, none⟩) (lt_of_cell e4)).trans e4
              replace e5 := (HW.out.below.cell (p := ⟨bb, bo + k * 6 + 5, none⟩) (lt_of_cell e5)).trans e5
              have hzb := lt_of_cell e0
              have HPh := hidI hPh
              have HIn := hidI hIn
              have hMem : ∀ x ∈ itsB f.blocks[k], ItOk f.regs.toNat x := fun x hx => HOk.out x (List.mem_flatMap.2 ⟨_, List.getElem_mem hlt, hx⟩)
              have HMem := hidI hMem
              have HPd : Hid (∀ p ∈ f.blocks[k].phis, 0 ≤ p.dst) := hidI fun p hp => (HS.out.phi k hlt p hp).dst.1
              have hfo := HFo.out
              rw [List.drop_eq_getElem_cons hlt, List.flatMap_cons, List.foldl_append] at hfo
              have HFo2 := hidI hfo
              clear hPh hIn hTo hMem hfo HFo
              generalize f.blocks[k] = B at *
              have zO := HW.out.o.lt
              have zw := HW.out.below.size
              go_wp2_with fail
              obtain ⟨w6, hw6⟩ : ∃ w6, w6 = wr.alloc (.cells #[.slice q1 B.phis.length c1, .slice q2 B.list.length c2, .int .i64 B.fin.kind, .bool B.fin.onr, .int .i64 B.fin.onn, .slice q3 B.fin.to.length c3] 50) := ⟨_, rfl⟩
              rw [← hw6]
              have HW6 : Hid (SqW w fv R (w.heap.size + 1) l' w6) := hidI (HW.out.next (by rw [hw6]; repeat (first | with_reducible exact Below.refl _ _ | with_reducible exact HB3.out | with_reducible refine Below.drew ?_ | with_reducible refine below_drewN ?_ _ | with_reducible refine Below.setCell ?_ ?_ _ | with_reducible refine Below.alloc ?_ ?_ _ | with_reducible exact HB2.out | with_reducible exact HB1.out | with_reducible refine Below.trans ?_ (Below.mono hb3 ?_) | with_reducible refine Below.trans ?_ (Below.mono hb5 ?_) | with_reducible refine Below.trans ?_ (Below.mono hb4 ?_) | omega | (simp; omega) | simp)))
              obtain ⟨bx, hbx⟩ : ∃ bx, bx = wr.heap.size := ⟨_, rfl⟩
              have HBx : Hid (w6.heap[bx]? = some (.cells #[.slice q1 B.phis.length c1, .slice q2 B.list.length c2, .int .i64 B.fin.kind, .bool B.fin.onr, .int .i64 B.fin.onn, .slice q3 B.fin.to.length c3] 50 (0, 0))) := hidI (by rw [hw6, hbx]; exact heap_here wr _)
              have hxO : bx ≠ (w.heap.size + 1) := by omega
              rw [← hbx]
              clear hw6 HW e0 e1 e2 e3 e4 e5 hzb zO zw hbx f3 zf
              go_loopg [5, 9] B.phis.length (fun q s5 s9 wr => ∃ (j : Nat) (l2 : Nat → Spn) (ag2 : Bool), j ≤ B.phis.length ∧ q = B.phis.length - j ∧ s5 = .bool ag2 ∧ s9 = .int .i64 j ∧ SqW w fv R (w.heap.size + 1) l2 wr ∧ OkS l2 ∧ Kept (fun k => k = (w.heap.size + 1)) w6 wr ∧ ((B.phis.drop j).map ItS.phi).foldl (itS t) (l2, ag2) = (B.phis.map ItS.phi).foldl (itS t) (l', ag'))
              case atStart => exact ⟨0, l', ag', by omega, rfl, rfl, rfl, HW6.out, HOl'.out, Kept.refl _ _, by rw [List.drop_zero]⟩
              case round =>
                obtain ⟨j, l2, ag2, hj, rfl, rfl, rfl, hW, hO2, hK, hf2⟩ := hrel
                have HW := hidI hW
                have HO2 := hidI hO2
                have HK := hidI hK
                have HF2 := hidI hf2
                clear hW hO2 hK hf2 HW6
                have HBr := hidI ((HK.out.block _ (ltHeap HBx.out) hxO).trans HBx.out)
                have b0 := (blk HBr.out).1 0
                have b1 := (blk HBr.out).1 1
                have zb := ltHeap HBr.out
                simp only [List.getElem?_toArray, List.getElem?_cons_zero, List.getElem?_cons_succ] at b0 b1
                by_cases hjl : j < B.phis.length
                · obtain ⟨pb, po, pq, pc, hpq, d0, d1, _, hl4, hSrc⟩ := phiGet HPh.out (Below.refl _ _) hjl
                  subst hpq
                  replace d0 := (HW.out.below.cell (p := ⟨pb, po + j * 2, none⟩) (lt_of_cell d0)).trans d0
                  replace d1 := (HW.out.below.cell (p := ⟨pb, po + j * 2 + 1, none⟩) (lt_of_cell d1)).trans d1
                  have hzp := lt_of_cell d0
                  have hIt : ItOk f.regs.toNat (.phi B.phis[j]) := HMem.out _ (List.mem_append_left _ (List.mem_map_of_mem (List.getElem_mem hjl)))
                  have hPd : 0 ≤ B.phis[j].dst := HPd.out _ (List.getElem_mem hjl)
                  have hff := HF2.out
                  rw [List.drop_eq_getElem_cons hjl, List.map_cons, List.foldl_cons] at hff
                  have HFF := hidI hff
                  have HSrc := hidI hSrc
                  have HIt := hidI hIt
                  clear hff hSrc hIt HF2
                  generalize B.phis[j] = p at *
                  obtain ⟨d, hd⟩ : ∃ d : Nat, p.dst = d := ⟨p.dst.toNat, by omega⟩
                  rw [hd] at d0
                  have hdR : d < R := by
                    have h1 := HIt.out.1
                    have h2 := HRn.out
                    have h1 : p.dst < f.regs.toNat := h1
                    omega
                  have Hd := hidI hd
                  clear hd
                  have zO := HW.out.o.lt
                  have zw := HW.out.below.size
                  go_wp2_with fail
                  obtain ⟨w7, hw7⟩ : ∃ w7, w7 = wr.alloc (.cells #[.int .i64 0, .int .i64 0, .bool false] 40) := ⟨_, rfl⟩
                  rw [← hw7]
                  have hw7b : Below wr.heap.size wr w7 := by rw [hw7]; repeat (first | with_reducible exact Below.refl _ _ | with_reducible exact HB3.out | with_reducible refine Below.drew ?_ | with_reducible refine below_drewN ?_ _ | with_reducible refine Below.setCell ?_ ?_ _ | with_reducible refine Below.alloc ?_ ?_ _ | with_reducible exact HB2.out | with_reducible exact HB1.out | with_reducible refine Below.trans ?_ (Below.mono hb3 ?_) | with_reducible refine Below.trans ?_ (Below.mono hb5 ?_) | with_reducible refine Below.trans ?_ (Below.mono hb4 ?_) | omega | (simp; omega) | simp)
                  have HW7 := hidI (HW.out.next hw7b)
                  have HK7 := hidI (HK.out.trans (Kept.of_below (S := fun _ => False) hw7b) (fun _ _ h => h.elim))
                  obtain ⟨bp, hbp⟩ : ∃ bp, bp = wr.heap.size := ⟨_, rfl⟩
                  have HS7 : Hid (w7.heap[bp]? = some (.cells #[.int .i64 0, .int .i64 0, .bool false] 40 (0, 0))) := hidI (by rw [hw7, hbp]; exact heap_here wr _)
                  have HBx7 := hidI ((hw7b.block _ (ltHeap HBr.out)).trans HBr.out)
                  have HP0 := hidI ((hw7b.cell (p := ⟨pb, po + j * 2, none⟩) (lt_of_cell d0)).trans d0)
                  have HP1 := hidI ((hw7b.cell (p := ⟨pb, po + j * 2 + 1, none⟩) (lt_of_cell d1)).trans d1)
                  have z67 := HK.out.size
                  rw [← hbp] at zO zw hzp zb z67 ⊢
                  clear hw7 hw7b hbp HW HK HBr d0 d1 b0 b1
                  go_loopg [11] p.src.length (fun q s11 wr => ∃ (i : Nat) (s : Spn), i ≤ p.src.length ∧ q = p.src.length - i ∧ s11 = .int .i64 i ∧ wr.heap[bp]? = some (.cells #[.int .i64 s.lo, .int .i64 s.hi, .bool s.has] 40 (0, 0)) ∧ Kept (fun k => k = bp) w7 wr ∧ (p.src.drop i).foldl (fun s v => joinS s (vlS l2 v)) s = phS l2 p.src)
                  case atStart => exact ⟨0, noS', by omega, rfl, rfl, HS7.out, Kept.refl _ _, by rw [List.drop_zero]; rfl⟩
                  case round =>
                    obtain ⟨i, s, hi, rfl, rfl, hSb, hK, hfs⟩ := hrel
                    have HSb := hidI hSb
                    have HK := hidI hK
                    have HFs := hidI hfs
                    have HW : Hid (SqW w fv R (w.heap.size + 1) l2 wr) := hidI (HW7.out.other hK fun i hi => by subst hi; refine ⟨?_, ?_⟩ <;> omega)
                    have hBr := (hK.block _ (ltHeap HBx7.out) (by omega)).trans HBx7.out
                    have b0 := (blk hBr).1 0
                    have zb := ltHeap hBr
                    simp only [List.getElem?_toArray, List.getElem?_cons_zero] at b0
                    have p0 := (hK.cell (p := ⟨pb, po + j * 2, none⟩) (lt_of_cell HP0.out) (fun e => by have e : pb = bp := e; omega)).trans HP0.out
                    have p1 := (hK.cell (p := ⟨pb, po + j * 2 + 1, none⟩) (lt_of_cell HP1.out) (fun e => by have e : pb = bp := e; omega)).trans HP1.out
                    have zp := lt_of_cell p0
                    clear hSb hK hfs HS7 hBr
                    by_cases hil : i < p.src.length
                    · obtain ⟨vb, vo, hpq, v0, v1, h64⟩ := valGet HSrc.out HW.out.below hil
                      subst hpq
                      have hvR := (HIt.out.2 _ (List.getElem_mem hil)).2
                      rw [HRn.out] at hvR
                      have hfs := HFs.out
                      rw [List.drop_eq_getElem_cons hil, List.foldl_cons] at hfs
                      have HFs2 := hidI hfs
                      have HvR := hidI hvR
                      clear hfs hvR HFs h64
                      generalize p.src[i] = v at *
                      obtain ⟨vr, vn⟩ := v
                      simp only at v0 v1
                      have zv := lt_of_cell v0
                      have zs := ltHeap HSb.out
                      go_wp2_with fail
                      have HAll := hidI (show ∀ w', Below wr.heap.size wr w' → w'.cell? ⟨bp, 0, none⟩ = some (.int .i64 s.lo) ∧ w'.cell? ⟨bp, 1, none⟩ = some (.int .i64 s.hi) ∧ w'.cell? ⟨bp, 2, none⟩ = some (.bool s.has) ∧ w'.cell? ⟨bx, 0, none⟩ = some (.slice (some ⟨pb, po, none⟩) B.phis.length c1) ∧ w'.cell? ⟨pb, po + j * 2 + 1, none⟩ = some (.slice (some ⟨vb, vo, none⟩) p.src.length pc) ∧ w'.cell? ⟨vb, vo + i * 2, none⟩ = some (.bool vr) ∧ w'.cell? ⟨vb, vo + i * 2 + 1, none⟩ = some (.int .i64 vn) from fun w' h => by
                        have h2 := (h.block _ (ltHeap HSb.out)).trans HSb.out
                        exact ⟨(blk h2).1 0, (blk h2).1 1, (blk h2).1 2, (h.cell (p := ⟨bx, 0, none⟩) zb).trans b0, (h.cell (p := ⟨pb, po + j * 2 + 1, none⟩) zp).trans p1, (h.cell (p := ⟨vb, vo + i * 2, none⟩) zv).trans v0, (h.cell (p := ⟨vb, vo + i * 2 + 1, none⟩) zv).trans v1⟩)
                      refine wp_region_calm (S := fun w' => Below wr.heap.size wr w') (by kernel_rfl) 13 ?_
                      obtain ⟨y0, hy0⟩ : ∃ y0, y0 = wr.drew := ⟨_, rfl⟩
                      have hb0 : Below wr.heap.size wr y0 := by rw [hy0]; exact (Below.refl _ _).drew
                      rw [← hy0]
                      clear hy0
                      refine takeZ 0 64 (.agg #[.int .i64 s.lo, .int .i64 s.hi, .bool s.has]) rfl rfl (by kernel_rfl) (by kernel_rfl) (by kernel_rfl) (by kernel_rfl) (fun _ _ _ h => h) (Or.inl ⟨by rfl, fun w' h => ?_⟩) hb0 ?_
                      · obtain ⟨h1, h2, h3, h4, h5, h6, h7⟩ := HAll.out w' h
                        go_simp
                      refine takeZ 1 65 (.slice (some ⟨w.heap.size + 1, 0, none⟩) R R) rfl rfl (by kernel_rfl) (by kernel_rfl) (by kernel_rfl) (by kernel_rfl) (fun _ _ _ h => h) (Or.inl ⟨by rfl, fun w' h => ?_⟩) hb0 ?_
                      · obtain ⟨h1, h2, h3, h4, h5, h6, h7⟩ := HAll.out w' h
                        go_simp
                      refine takeZ 2 66 (.pointer (some ⟨bx, 0, none⟩)) rfl rfl (by kernel_rfl) (by kernel_rfl) (by kernel_rfl) (by kernel_rfl) (fun _ _ _ h => h) (Or.inl ⟨by rfl, fun w' h => ?_⟩) hb0 ?_
                      · obtain ⟨h1, h2, h3, h4, h5, h6, h7⟩ := HAll.out w' h
                        go_simp
                      refine takeZ 3 67 (.slice (some ⟨pb, po, none⟩) B.phis.length c1) rfl rfl (by kernel_rfl) (by kernel_rfl) (by kernel_rfl) (by kernel_rfl) (fun _ _ _ h => h) (Or.inl ⟨by rfl, fun w' h => ?_⟩) hb0 ?_
                      · obtain ⟨h1, h2, h3, h4, h5, h6, h7⟩ := HAll.out w' h
                        go_simp
                      refine takeZ 4 68 (.int .i64 (j : Int)) rfl rfl (by kernel_rfl) (by kernel_rfl) (by kernel_rfl) (by kernel_rfl) (fun _ _ _ h => h) (Or.inl ⟨by rfl, fun w' h => ?_⟩) hb0 ?_
                      · obtain ⟨h1, h2, h3, h4, h5, h6, h7⟩ := HAll.out w' h
                        go_simp
                      refine takeZ 5 69 (.pointer (some ⟨pb, po + j * 2, none⟩)) rfl rfl (by kernel_rfl) (by kernel_rfl) (by kernel_rfl) (by kernel_rfl) (fun _ _ _ h => h) (Or.inl ⟨by rfl, fun w' h => ?_⟩) hb0 ?_
                      · obtain ⟨h1, h2, h3, h4, h5, h6, h7⟩ := HAll.out w' h
                        go_simp
                      refine takeZ 6 70 (.pointer (some ⟨pb, po + j * 2 + 1, none⟩)) rfl rfl (by kernel_rfl) (by kernel_rfl) (by kernel_rfl) (by kernel_rfl) (fun _ _ _ h => h) (Or.inl ⟨by rfl, fun w' h => ?_⟩) hb0 ?_
                      · obtain ⟨h1, h2, h3, h4, h5, h6, h7⟩ := HAll.out w' h
                        go_simp
                      refine takeZ 7 71 (.slice (some ⟨vb, vo, none⟩) p.src.length pc) rfl rfl (by kernel_rfl) (by kernel_rfl) (by kernel_rfl) (by kernel_rfl) (fun _ _ _ h => h) (Or.inl ⟨by rfl, fun w' h => ?_⟩) hb0 ?_
                      · obtain ⟨h1, h2, h3, h4, h5, h6, h7⟩ := HAll.out w' h
                        go_simp
                      refine takeZ 8 72 (.int .i64 (i : Int)) rfl rfl (by kernel_rfl) (by kernel_rfl) (by kernel_rfl) (by kernel_rfl) (fun _ _ _ h => h) (Or.inl ⟨by rfl, fun w' h => ?_⟩) hb0 ?_
                      · obtain ⟨h1, h2, h3, h4, h5, h6, h7⟩ := HAll.out w' h
                        go_simp
                      refine takeZ 9 73 (.pointer (some ⟨vb, vo + i * 2, none⟩)) rfl rfl (by kernel_rfl) (by kernel_rfl) (by kernel_rfl) (by kernel_rfl) (fun _ _ _ h => h) (Or.inl ⟨by rfl, fun w' h => ?_⟩) hb0 ?_
                      · obtain ⟨h1, h2, h3, h4, h5, h6, h7⟩ := HAll.out w' h
                        go_simp
                      refine takeZ 10 74 (.agg #[.bool vr, .int .i64 vn]) rfl rfl (by kernel_rfl) (by kernel_rfl) (by kernel_rfl) (by kernel_rfl) (fun _ _ _ h => h) (Or.inl ⟨by rfl, fun w' h => ?_⟩) hb0 ?_
                      · obtain ⟨h1, h2, h3, h4, h5, h6, h7⟩ := HAll.out w' h
                        go_simp
                      refine stepZ_1 (i := 11) (by kernel_rfl) (stepZ_callTo 75 rfl rfl rfl (by go_simp) (rVal_any (w.heap.size + 1) R l2 vr vn y0 (by omega) (HW.out.next hb0).o HvR.out) ?_)
                      rintro e y1 ⟨rfl, hb1'⟩
                      have hb1 : Below wr.heap.size wr y1 := hb0.trans (hb1'.mono hb0.size)
                      clear hb1'
                      refine ⟨_, rfl, hb1, ?_⟩
                      refine stepZ_1 (i := 12) (by kernel_rfl) (stepZ_callTo 76 rfl rfl rfl (by go_simp) (rJoin_any s (vlS l2 (vr, vn)) y1) ?_)
                      rintro e y2 ⟨rfl, hb2'⟩
                      have hb2 : Below wr.heap.size wr y2 := hb1.trans (hb2'.mono hb1.size)
                      clear hb2' hb1 hb0
                      refine ⟨_, rfl, hb2, ?_⟩
                      obtain ⟨sn, hsn⟩ : ∃ sn, sn = joinS s (vlS l2 (vr, vn)) := ⟨_, rfl⟩
                      rw [← hsn] at HFs2 ⊢
                      clear hsn
                      have hS2 := (hb2.block _ (ltHeap HSb.out)).trans HSb.out
                      have z2 := ltHeap hS2
                      have c0 := (blk hS2).1 0
                      have c1 := (blk hS2).1 1
                      have c2 := (blk hS2).1 2
                      have cf := (blk hS2).2
                      simp only [List.getElem?_toArray, List.getElem?_cons_zero, List.getElem?_cons_succ] at c0 c1 c2
                      obtain ⟨Y, hY⟩ : ∃ Y, Y = ((y2.setCell ⟨bp, 0, none⟩ (.int .i64 sn.lo)).setCell ⟨bp, 1, none⟩ (.int .i64 sn.hi)).setCell ⟨bp, 2, none⟩ (.bool sn.has) := ⟨_, rfl⟩
                      refine stepZ_1 (i := 13) (by kernel_rfl) (stepZ_skipNo Y rfl rfl rfl (by rw [hY]; go_simp) (fun h => absurd rfl h) (wpAnyZ_done (by kernel_rfl) ?_ _))
                      have HYn : Hid (Y.heap[bp]? = some (.cells #[.int .i64 sn.lo, .int .i64 sn.hi, .bool sn.has] 40 (0, 0))) := hidI (by
                        rw [hY, row_set (row_set (row_set hS2 0 _) 1 _) 2 _]
                        rfl)
                      have HK3 : Hid (Kept (fun k => k = bp) w7 Y) := hidI (by
                        rw [hY]
                        exact (((HK.out.trans (Kept.of_below (S := fun _ => False) hb2) (fun _ _ h => h.elim)).setCell (p := ⟨bp, 0, none⟩) rfl _).setCell (p := ⟨bp, 1, none⟩) rfl _).setCell (p := ⟨bp, 2, none⟩) rfl _)
                      clear hY hS2 z2 c0 c1 c2 cf hb2
                      simp only [calm]
                      go_simp
                      go_wp2_with fail
                      go_roundg (p.src.length - (i + 1))
                      case measure => omega
                      case rel => exact ⟨i + 1, sn, by omega, rfl, by go_num, HYn.out, HK3.out, HFs2.out⟩
                    · obtain rfl : i = p.src.length := by omega
                      have hs : s = phS l2 p.src := by
                        have h := HFs.out
                        rw [List.drop_length] at h
                        exact h
                      have hit := itS_phi (t := t) (l := l2) (ag := ag2) Hd.out hs
                      have hOk3 := HO2.out.it (turn := t) (s := (l2, ag2)) HIt.out
                      have hff := HFF.out
                      rw [hit] at hOk3 hff
                      have HOk3 := hidI hOk3
                      have HFF2 := hidI hff
                      have hsOk : SpOk s := by rw [hs]; exact HO2.out.phs p.src noS' (fun v hv => (HIt.out.2 v hv).1) .none
                      have HsOk := hidI hsOk
                      clear hs hit hOk3 hff HFs HFF HIt hsOk
                      go_wp2_with fail
                      obtain ⟨sn, hsn⟩ : ∃ sn, sn = newS t (l2 d) s := ⟨_, rfl⟩
                      have HWid := hidI (fun y => rWiden_any (l2 d) s t y (HO2.out d) HsOk.out (by omega))
                      have hq := fun w => run_chg (turn := t) (l := l2) (d := d) (s := s) (HO2.out d) HsOk.out w
                      obtain ⟨C, hC⟩ : ∃ C, C = chgS l2 d s := ⟨_, rfl⟩
                      have HPut := hidI (show putSp t l2 d s = setS l2 d sn by rw [hsn]; rfl)
                      rw [← hsn, ← hC] at hq
                      rw [← hsn] at HWid
                      have HC := hidI hC
                      have Hq := hidI hq
                      clear hsn hC hq
                      have HKy : Hid (Kept (fun k => k = (w.heap.size + 1)) w6 wr) := hidI (HK7.out.trans HK.out (fun k hk e => by have e : k = bp := e; omega))
                      have HAll := hidI (show ∀ w', Below wr.heap.size wr w' → w'.cell? ⟨bp, 0, none⟩ = some (.int .i64 s.lo) ∧ w'.cell? ⟨bp, 1, none⟩ = some (.int .i64 s.hi) ∧ w'.cell? ⟨bp, 2, none⟩ = some (.bool s.has) ∧ w'.cell? ⟨w.heap.size + 1, d * 3, none⟩ = some (.int .i64 (l2 d).lo) ∧ w'.cell? ⟨w.heap.size + 1, d * 3 + 1, none⟩ = some (.int .i64 (l2 d).hi) ∧ w'.cell? ⟨w.heap.size + 1, d * 3 + 2, none⟩ = some (.bool (l2 d).has) from fun w' h => by
                        have h2 := (h.block _ (ltHeap HSb.out)).trans HSb.out
                        have hr := (HW.out.next h).o
                        exact ⟨(blk h2).1 0, (blk h2).1 1, (blk h2).1 2, (hr.cell (i := d * 3) (by omega)).trans (by rw [spF_0]), (hr.cell (i := d * 3 + 1) (by omega)).trans (by rw [spF_1]), (hr.cell (i := d * 3 + 2) (by omega)).trans (by rw [spF_2])⟩)
                      refine wp_region_calm (S := fun w' => Below wr.heap.size wr w') (by kernel_rfl) 8 ?_
                      obtain ⟨y0, hy0⟩ : ∃ y0, y0 = wr.drew := ⟨_, rfl⟩
                      have hb0 : Below wr.heap.size wr y0 := by rw [hy0]; exact (Below.refl _ _).drew
                      rw [← hy0]
                      clear hy0
                      refine takeZ 0 83 (.slice (some ⟨w.heap.size + 1, 0, none⟩) R R) rfl rfl (by kernel_rfl) (by kernel_rfl) (by kernel_rfl) (by kernel_rfl) (fun _ _ _ h => h) (Or.inl ⟨by rfl, fun w' h => ?_⟩) hb0 ?_
                      · obtain ⟨h1, h2, h3, h4, h5, h6⟩ := HAll.out w' h
                        go_simp
                      refine takeZ 1 84 (.int .i64 (d : Int)) rfl rfl (by kernel_rfl) (by kernel_rfl) (by kernel_rfl) (by kernel_rfl) (fun _ _ _ h => h) (Or.inl ⟨by rfl, fun w' h => ?_⟩) hb0 ?_
                      · obtain ⟨h1, h2, h3, h4, h5, h6⟩ := HAll.out w' h
                        go_simp
                      refine takeZ 2 85 (.pointer (some ⟨w.heap.size + 1, d * 3, none⟩)) rfl rfl (by kernel_rfl) (by kernel_rfl) (by kernel_rfl) (by kernel_rfl) (fun _ _ _ h => h) (Or.inl ⟨by rfl, fun w' h => ?_⟩) hb0 ?_
                      · obtain ⟨h1, h2, h3, h4, h5, h6⟩ := HAll.out w' h
                        go_simp
                      refine takeZ 3 86 (.agg #[.int .i64 (l2 d).lo, .int .i64 (l2 d).hi, .bool (l2 d).has]) rfl rfl (by kernel_rfl) (by kernel_rfl) (by kernel_rfl) (by kernel_rfl) (fun _ _ _ h => h) (Or.inl ⟨by rfl, fun w' h => ?_⟩) hb0 ?_
                      · obtain ⟨h1, h2, h3, h4, h5, h6⟩ := HAll.out w' h
                        go_simp
                      refine takeZ 4 87 (.agg #[.int .i64 s.lo, .int .i64 s.hi, .bool s.has]) rfl rfl (by kernel_rfl) (by kernel_rfl) (by kernel_rfl) (by kernel_rfl) (fun _ _ _ h => h) (Or.inl ⟨by rfl, fun w' h => ?_⟩) hb0 ?_
                      · obtain ⟨h1, h2, h3, h4, h5, h6⟩ := HAll.out w' h
                        go_simp
                      refine takeZ 5 88 (.int .i64 (t : Int)) rfl rfl (by kernel_rfl) (by kernel_rfl) (by kernel_rfl) (by kernel_rfl) (fun _ _ _ h => h) (Or.inl ⟨by rfl, fun w' h => ?_⟩) hb0 ?_
                      · obtain ⟨h1, h2, h3, h4, h5, h6⟩ := HAll.out w' h
                        go_simp
                      refine stepZ_2 (i := 6) (j := 7) (by kernel_rfl) ?_ ?_
                      · refine stepZ_callTo 89 rfl rfl rfl (by go_simp) (HWid.out y0) ?_
                        rintro e y1 ⟨rfl, hb'⟩
                        have hb1 : Below wr.heap.size wr y1 := hb0.trans (hb'.mono hb0.size)
                        clear hb'
                        refine ⟨_, rfl, hb1, ?_⟩
                        refine stepZ_1 (i := 7) (by kernel_rfl) (stepZ_to 13 (.pointer (some ⟨y1.heap.size, 0, none⟩)) (y1.alloc (.cells #[.int .i64 0, .int .i64 0, .bool false] 40)) rfl rfl rfl (by go_simp) (hb1.alloc hb1.size _) ?_)
                        have HZ : (y1.alloc (.cells #[.int .i64 0, .int .i64 0, .bool false] 40)).heap[y1.heap.size]? = some (.cells #[.int .i64 0, .int .i64 0, .bool false] 40 (0, 0)) := heap_here y1 _
                        have hb2 : Below wr.heap.size wr (y1.alloc (.cells #[.int .i64 0, .int .i64 0, .bool false] 40)) := hb1.alloc hb1.size _
                        obtain ⟨y2, hy⟩ : ∃ y2, y2 = y1.alloc (.cells #[.int .i64 0, .int .i64 0, .bool false] 40) := ⟨_, rfl⟩
                        rw [← hy] at HZ hb2 ⊢
                        obtain ⟨Bn, hBn⟩ : ∃ Bn, Bn = y1.heap.size := ⟨_, rfl⟩
                        have hBw : wr.heap.size ≤ Bn := by rw [hBn]; exact hb1.size
                        rw [← hBn] at HZ ⊢
                        clear hy hBn
                        have hS2 := HZ
                        have z2 := ltHeap hS2
                        have c0 := (blk hS2).1 0
                        have c1 := (blk hS2).1 1
                        have c2 := (blk hS2).1 2
                        have cf := (blk hS2).2
                        simp only [List.getElem?_toArray, List.getElem?_cons_zero, List.getElem?_cons_succ] at c0 c1 c2
                        obtain ⟨Y, hY⟩ : ∃ Y, Y = ((y2.setCell ⟨Bn, 0, none⟩ (.int .i64 sn.lo)).setCell ⟨Bn, 1, none⟩ (.int .i64 sn.hi)).setCell ⟨Bn, 2, none⟩ (.bool sn.has) := ⟨_, rfl⟩
                        refine stepZ_1 (i := 8) (by kernel_rfl) (stepZ_skipNo Y rfl rfl rfl (by rw [hY]; go_simp) (fun h => absurd rfl h) (wpAnyZ_done (by kernel_rfl) ?_ _))
                        have HYn : Hid (Y.heap[Bn]? = some (.cells #[.int .i64 sn.lo, .int .i64 sn.hi, .bool sn.has] 40 (0, 0))) := hidI (by
                          rw [hY, row_set (row_set (row_set hS2 0 _) 1 _) 2 _]
                          rfl)
                        have HYb : Hid (Below wr.heap.size wr Y) := hidI (by
                          rw [hY]
                          exact ((hb2.setCell hBw _).setCell hBw _).setCell hBw _)
                        clear hY hS2 z2 c0 c1 c2 cf HZ hb0 hb1 hb2
                        simp only [calm, Exit.then]
                        go_simp
                        go_wp2_with fail
                        have hq := Hq.out
                        have HWy := hidI (HW.out.next HYb.out)
                        have hr := HWy.out.o
                        have c0 := hr.cell (i := d * 3) (by omega)
                        have c1 := hr.cell (i := d * 3 + 1) (by omega)
                        have c2 := hr.cell (i := d * 3 + 2) (by omega)
                        have f0' := hr.frozen (d * 3)
                        have f1' := hr.frozen (d * 3 + 1)
                        have f2' := hr.frozen (d * 3 + 2)
                        have zOy := hr.lt
                        rw [spF_0] at c0
                        rw [spF_1] at c1
                        rw [spF_2] at c2
                        have n0 := (blk HYn.out).1 0
                        have n1' := (blk HYn.out).1 1
                        have n2' := (blk HYn.out).1 2
                        have zn := ltHeap HYn.out
                        simp only [List.getElem?_toArray, List.getElem?_cons_zero, List.getElem?_cons_succ] at n0 n1' n2'
                        clear hr
                        cases ag2 with
                        | true =>
                          go_quiet (fail)
                          obtain ⟨y5, hy5⟩ : ∃ y5, y5 = Y.drewN nq := ⟨_, rfl⟩
                          rw [← hy5]
                          have hb5 : Below wr.heap.size wr y5 := by rw [hy5]; exact below_drewN HYb.out nq
                          replace c0 : y5.cell? ⟨w.heap.size + 1, d * 3, none⟩ = some (.int .i64 (l2 d).lo) := by rw [hy5]; exact c0
                          replace c1 : y5.cell? ⟨w.heap.size + 1, d * 3 + 1, none⟩ = some (.int .i64 (l2 d).hi) := by rw [hy5]; exact c1
                          replace c2 : y5.cell? ⟨w.heap.size + 1, d * 3 + 2, none⟩ = some (.bool (l2 d).has) := by rw [hy5]; exact c2
                          replace f0' : y5.frozen? ⟨w.heap.size + 1, d * 3, none⟩ = false := by rw [hy5]; exact f0'
                          replace f1' : y5.frozen? ⟨w.heap.size + 1, d * 3 + 1, none⟩ = false := by rw [hy5]; exact f1'
                          replace f2' : y5.frozen? ⟨w.heap.size + 1, d * 3 + 2, none⟩ = false := by rw [hy5]; exact f2'
                          replace n0 : y5.cell? ⟨Bn, 0, none⟩ = some (.int .i64 sn.lo) := by rw [hy5]; exact n0
                          replace n1' : y5.cell? ⟨Bn, 1, none⟩ = some (.int .i64 sn.hi) := by rw [hy5]; exact n1'
                          replace n2' : y5.cell? ⟨Bn, 2, none⟩ = some (.bool sn.has) := by rw [hy5]; exact n2'
                          replace zOy := lt_of_cell c0
                          replace zn := lt_of_cell n0
                          clear hy5 HYb HYn HWy
                          go_wp2_with fail
                          have hrn := spRow_set (d := d) sn (HW.out.next hb5).o
                          rw [← HPut.out] at hrn
                          have hkp := ((((HKy.out.trans (Kept.of_below (S := fun _ => False) hb5) (fun _ _ h => h.elim)).setCell (p := ⟨w.heap.size + 1, d * 3, none⟩) rfl (.int .i64 sn.lo)).setCell (p := ⟨w.heap.size + 1, d * 3 + 1, none⟩) rfl (.int .i64 sn.hi)).setCell (p := ⟨w.heap.size + 1, d * 3 + 2, none⟩) rfl (.bool sn.has))
                          have hkq := ((((Kept.refl (fun k => k = (w.heap.size + 1)) y5).setCell (p := ⟨w.heap.size + 1, d * 3, none⟩) rfl (.int .i64 sn.lo)).setCell (p := ⟨w.heap.size + 1, d * 3 + 1, none⟩) rfl (.int .i64 sn.hi)).setCell (p := ⟨w.heap.size + 1, d * 3 + 2, none⟩) rfl (.bool sn.has))
                          go_roundg (B.phis.length - (j + 1))
                          case measure => omega
                          case rel => exact ⟨j + 1, putSp t l2 d s, true || chgS l2 d s, by omega, rfl, by first | rfl | (rw [← HC.out, Bool.false_or]), by go_num, (HW.out.next hb5).put hrn hkq, HOk3.out, hkp, HFF2.out⟩
                        | false =>
                          go_quiet (fail)
                          obtain ⟨y5, hy5⟩ : ∃ y5, y5 = Y.drewN nq := ⟨_, rfl⟩
                          rw [← hy5]
                          have hb5 : Below wr.heap.size wr y5 := by rw [hy5]; exact below_drewN HYb.out nq
                          replace c0 : y5.cell? ⟨w.heap.size + 1, d * 3, none⟩ = some (.int .i64 (l2 d).lo) := by rw [hy5]; exact c0
                          replace c1 : y5.cell? ⟨w.heap.size + 1, d * 3 + 1, none⟩ = some (.int .i64 (l2 d).hi) := by rw [hy5]; exact c1
                          replace c2 : y5.cell? ⟨w.heap.size + 1, d * 3 + 2, none⟩ = some (.bool (l2 d).has) := by rw [hy5]; exact c2
                          replace f0' : y5.frozen? ⟨w.heap.size + 1, d * 3, none⟩ = false := by rw [hy5]; exact f0'
                          replace f1' : y5.frozen? ⟨w.heap.size + 1, d * 3 + 1, none⟩ = false := by rw [hy5]; exact f1'
                          replace f2' : y5.frozen? ⟨w.heap.size + 1, d * 3 + 2, none⟩ = false := by rw [hy5]; exact f2'
                          replace n0 : y5.cell? ⟨Bn, 0, none⟩ = some (.int .i64 sn.lo) := by rw [hy5]; exact n0
                          replace n1' : y5.cell? ⟨Bn, 1, none⟩ = some (.int .i64 sn.hi) := by rw [hy5]; exact n1'
                          replace n2' : y5.cell? ⟨Bn, 2, none⟩ = some (.bool sn.has) := by rw [hy5]; exact n2'
                          replace zOy := lt_of_cell c0
                          replace zn := lt_of_cell n0
                          clear hy5 HYb HYn HWy
                          go_wp2_with fail
                          have hrn := spRow_set (d := d) sn (HW.out.next hb5).o
                          rw [← HPut.out] at hrn
                          have hkp := ((((HKy.out.trans (Kept.of_below (S := fun _ => False) hb5) (fun _ _ h => h.elim)).setCell (p := ⟨w.heap.size + 1, d * 3, none⟩) rfl (.int .i64 sn.lo)).setCell (p := ⟨w.heap.size + 1, d * 3 + 1, none⟩) rfl (.int .i64 sn.hi)).setCell (p := ⟨w.heap.size + 1, d * 3 + 2, none⟩) rfl (.bool sn.has))
                          have hkq := ((((Kept.refl (fun k => k = (w.heap.size + 1)) y5).setCell (p := ⟨w.heap.size + 1, d * 3, none⟩) rfl (.int .i64 sn.lo)).setCell (p := ⟨w.heap.size + 1, d * 3 + 1, none⟩) rfl (.int .i64 sn.hi)).setCell (p := ⟨w.heap.size + 1, d * 3 + 2, none⟩) rfl (.bool sn.has))
                          go_roundg (B.phis.length - (j + 1))
                          case measure => omega
                          case rel => exact ⟨j + 1, putSp t l2 d s, false || chgS l2 d s, by omega, rfl, by first | rfl | (rw [← HC.out, Bool.false_or]), by go_num, (HW.out.next hb5).put hrn hkq, HOk3.out, hkp, HFF2.out⟩
                      · refine stepZ_to 13 (.pointer (some ⟨y0.heap.size, 0, none⟩)) (y0.alloc (.cells #[.int .i64 0, .int .i64 0, .bool false] 40)) rfl rfl rfl (by go_simp) (hb0.alloc hb0.size _) ?_
                        have HZ : (y0.alloc (.cells #[.int .i64 0, .int .i64 0, .bool false] 40)).heap[y0.heap.size]? = some (.cells #[.int .i64 0, .int .i64 0, .bool false] 40 (0, 0)) := heap_here y0 _
                        have hb1 : Below wr.heap.size wr (y0.alloc (.cells #[.int .i64 0, .int .i64 0, .bool false] 40)) := hb0.alloc hb0.size _
                        obtain ⟨y1, hy⟩ : ∃ y1, y1 = y0.alloc (.cells #[.int .i64 0, .int .i64 0, .bool false] 40) := ⟨_, rfl⟩
                        rw [← hy] at HZ hb1 ⊢
                        obtain ⟨Bn, hBn⟩ : ∃ Bn, Bn = y0.heap.size := ⟨_, rfl⟩
                        have hBw : wr.heap.size ≤ Bn := by rw [hBn]; exact hb0.size
                        rw [← hBn] at HZ ⊢
                        clear hy hBn
                        refine stepZ_1 (i := 6) (by kernel_rfl) (stepZ_callTo 89 rfl rfl rfl (by go_simp) (HWid.out y1) ?_)
                        rintro e y2 ⟨rfl, hb'⟩
                        have hb2 : Below wr.heap.size wr y2 := hb1.trans (hb'.mono hb1.size)
                        replace HZ := (hb'.block _ (ltHeap HZ)).trans HZ
                        clear hb'
                        refine ⟨_, rfl, hb2, ?_⟩
                        have hS2 := HZ
                        have z2 := ltHeap hS2
                        have c0 := (blk hS2).1 0
                        have c1 := (blk hS2).1 1
                        have c2 := (blk hS2).1 2
                        have cf := (blk hS2).2
                        simp only [List.getElem?_toArray, List.getElem?_cons_zero, List.getElem?_cons_succ] at c0 c1 c2
                        obtain ⟨Y, hY⟩ : ∃ Y, Y = ((y2.setCell ⟨Bn, 0, none⟩ (.int .i64 sn.lo)).setCell ⟨Bn, 1, none⟩ (.int .i64 sn.hi)).setCell ⟨Bn, 2, none⟩ (.bool sn.has) := ⟨_, rfl⟩
                        refine stepZ_1 (i := 8) (by kernel_rfl) (stepZ_skipNo Y rfl rfl rfl (by rw [hY]; go_simp) (fun h => absurd rfl h) (wpAnyZ_done (by kernel_rfl) ?_ _))
                        have HYn : Hid (Y.heap[Bn]? = some (.cells #[.int .i64 sn.lo, .int .i64 sn.hi, .bool sn.has] 40 (0, 0))) := hidI (by
                          rw [hY, row_set (row_set (row_set hS2 0 _) 1 _) 2 _]
                          rfl)
                        have HYb : Hid (Below wr.heap.size wr Y) := hidI (by
                          rw [hY]
                          exact ((hb2.setCell hBw _).setCell hBw _).setCell hBw _)
                        clear hY hS2 z2 c0 c1 c2 cf HZ hb0 hb1 hb2
                        simp only [calm, Exit.then]
                        go_simp
                        go_wp2_with fail
                        have hq := Hq.out
                        have HWy := hidI (HW.out.next HYb.out)
                        have hr := HWy.out.o
                        have c0 := hr.cell (i := d * 3) (by omega)
                        have c1 := hr.cell (i := d * 3 + 1) (by omega)
                        have c2 := hr.cell (i := d * 3 + 2) (by omega)
                        have f0' := hr.frozen (d * 3)
                        have f1' := hr.frozen (d * 3 + 1)
                        have f2' := hr.frozen (d * 3 + 2)
                        have zOy := hr.lt
                        rw [spF_0] at c0
                        rw [spF_1] at c1
                        rw [spF_2] at c2
                        have n0 := (blk HYn.out).1 0
                        have n1' := (blk HYn.out).1 1
                        have n2' := (blk HYn.out).1 2
                        have zn := ltHeap HYn.out
                        simp only [List.getElem?_toArray, List.getElem?_cons_zero, List.getElem?_cons_succ] at n0 n1' n2'
                        clear hr
                        cases ag2 with
                        | true =>
                          go_quiet (fail)
                          obtain ⟨y5, hy5⟩ : ∃ y5, y5 = Y.drewN nq := ⟨_, rfl⟩
                          rw [← hy5]
                          have hb5 : Below wr.heap.size wr y5 := by rw [hy5]; exact below_drewN HYb.out nq
                          replace c0 : y5.cell? ⟨w.heap.size + 1, d * 3, none⟩ = some (.int .i64 (l2 d).lo) := by rw [hy5]; exact c0
                          replace c1 : y5.cell? ⟨w.heap.size + 1, d * 3 + 1, none⟩ = some (.int .i64 (l2 d).hi) := by rw [hy5]; exact c1
                          replace c2 : y5.cell? ⟨w.heap.size + 1, d * 3 + 2, none⟩ = some (.bool (l2 d).has) := by rw [hy5]; exact c2
                          replace f0' : y5.frozen? ⟨w.heap.size + 1, d * 3, none⟩ = false := by rw [hy5]; exact f0'
                          replace f1' : y5.frozen? ⟨w.heap.size + 1, d * 3 + 1, none⟩ = false := by rw [hy5]; exact f1'
                          replace f2' : y5.frozen? ⟨w.heap.size + 1, d * 3 + 2, none⟩ = false := by rw [hy5]; exact f2'
                          replace n0 : y5.cell? ⟨Bn, 0, none⟩ = some (.int .i64 sn.lo) := by rw [hy5]; exact n0
                          replace n1' : y5.cell? ⟨Bn, 1, none⟩ = some (.int .i64 sn.hi) := by rw [hy5]; exact n1'
                          replace n2' : y5.cell? ⟨Bn, 2, none⟩ = some (.bool sn.has) := by rw [hy5]; exact n2'
                          replace zOy := lt_of_cell c0
                          replace zn := lt_of_cell n0
                          clear hy5 HYb HYn HWy
                          go_wp2_with fail
                          have hrn := spRow_set (d := d) sn (HW.out.next hb5).o
                          rw [← HPut.out] at hrn
                          have hkp := ((((HKy.out.trans (Kept.of_below (S := fun _ => False) hb5) (fun _ _ h => h.elim)).setCell (p := ⟨w.heap.size + 1, d * 3, none⟩) rfl (.int .i64 sn.lo)).setCell (p := ⟨w.heap.size + 1, d * 3 + 1, none⟩) rfl (.int .i64 sn.hi)).setCell (p := ⟨w.heap.size + 1, d * 3 + 2, none⟩) rfl (.bool sn.has))
                          have hkq := ((((Kept.refl (fun k => k = (w.heap.size + 1)) y5).setCell (p := ⟨w.heap.size + 1, d * 3, none⟩) rfl (.int .i64 sn.lo)).setCell (p := ⟨w.heap.size + 1, d * 3 + 1, none⟩) rfl (.int .i64 sn.hi)).setCell (p := ⟨w.heap.size + 1, d * 3 + 2, none⟩) rfl (.bool sn.has))
                          go_roundg (B.phis.length - (j + 1))
                          case measure => omega
                          case rel => exact ⟨j + 1, putSp t l2 d s, true || chgS l2 d s, by omega, rfl, by first | rfl | (rw [← HC.out, Bool.false_or]), by go_num, (HW.out.next hb5).put hrn hkq, HOk3.out, hkp, HFF2.out⟩
                        | false =>
                          go_quiet (fail)
                          obtain ⟨y5, hy5⟩ : ∃ y5, y5 = Y.drewN nq := ⟨_, rfl⟩
                          rw [← hy5]
                          have hb5 : Below wr.heap.size wr y5 := by rw [hy5]; exact below_drewN HYb.out nq
                          replace c0 : y5.cell? ⟨w.heap.size + 1, d * 3, none⟩ = some (.int .i64 (l2 d).lo) := by rw [hy5]; exact c0
                          replace c1 : y5.cell? ⟨w.heap.size + 1, d * 3 + 1, none⟩ = some (.int .i64 (l2 d).hi) := by rw [hy5]; exact c1
                          replace c2 : y5.cell? ⟨w.heap.size + 1, d * 3 + 2, none⟩ = some (.bool (l2 d).has) := by rw [hy5]; exact c2
                          replace f0' : y5.frozen? ⟨w.heap.size + 1, d * 3, none⟩ = false := by rw [hy5]; exact f0'
                          replace f1' : y5.frozen? ⟨w.heap.size + 1, d * 3 + 1, none⟩ = false := by rw [hy5]; exact f1'
                          replace f2' : y5.frozen? ⟨w.heap.size + 1, d * 3 + 2, none⟩ = false := by rw [hy5]; exact f2'
                          replace n0 : y5.cell? ⟨Bn, 0, none⟩ = some (.int .i64 sn.lo) := by rw [hy5]; exact n0
                          replace n1' : y5.cell? ⟨Bn, 1, none⟩ = some (.int .i64 sn.hi) := by rw [hy5]; exact n1'
                          replace n2' : y5.cell? ⟨Bn, 2, none⟩ = some (.bool sn.has) := by rw [hy5]; exact n2'
                          replace zOy := lt_of_cell c0
                          replace zn := lt_of_cell n0
                          clear hy5 HYb HYn HWy
                          go_wp2_with fail
                          have hrn := spRow_set (d := d) sn (HW.out.next hb5).o
                          rw [← HPut.out] at hrn
                          have hkp := ((((HKy.out.trans (Kept.of_below (S := fun _ => False) hb5) (fun _ _ h => h.elim)).setCell (p := ⟨w.heap.size + 1, d * 3, none⟩) rfl (.int .i64 sn.lo)).setCell (p := ⟨w.heap.size + 1, d * 3 + 1, none⟩) rfl (.int .i64 sn.hi)).setCell (p := ⟨w.heap.size + 1, d * 3 + 2, none⟩) rfl (.bool sn.has))
                          have hkq := ((((Kept.refl (fun k => k = (w.heap.size + 1)) y5).setCell (p := ⟨w.heap.size + 1, d * 3, none⟩) rfl (.int .i64 sn.lo)).setCell (p := ⟨w.heap.size + 1, d * 3 + 1, none⟩) rfl (.int .i64 sn.hi)).setCell (p := ⟨w.heap.size + 1, d * 3 + 2, none⟩) rfl (.bool sn.has))
                          go_roundg (B.phis.length - (j + 1))
                          case measure => omega
                          case rel => exact ⟨j + 1, putSp t l2 d s, false || chgS l2 d s, by omega, rfl, by first | rfl | (rw [← HC.out, Bool.false_or]), by go_num, (HW.out.next hb5).put hrn hkq, HOk3.out, hkp, HFF2.out⟩
                · obtain rfl : j = B.phis.length := by omega
                  have hst : (B.phis.map ItS.phi).foldl (itS t) (l', ag') = (l2, ag2) := by
                    have h := HF2.out
                    rw [List.drop_length] at h
                    exact h.symm
                  have hfo3 := HFo2.out
                  rw [show itsB B = B.phis.map ItS.phi ++ B.list.map ItS.ins from rfl, List.foldl_append, hst] at hfo3
                  have HFo3 := hidI hfo3
                  clear hst HF2 hfo3 HFo2
                  go_wp2_with fail
                  clear HBr b0 b1 zb
                  go_loopg [5, 14] B.list.length (fun q s5 s14 wr => ∃ (j : Nat) (l3 : Nat → Spn) (ag3 : Bool), j ≤ B.list.length ∧ q = B.list.length - j ∧ s5 = .bool ag3 ∧ s14 = .int .i64 j ∧ SqW w fv R (w.heap.size + 1) l3 wr ∧ OkS l3 ∧ Kept (fun k => k = (w.heap.size + 1)) w6 wr ∧ ((B.list.drop j).map ItS.ins).foldl (itS t) (l3, ag3) = (B.list.map ItS.ins).foldl (itS t) (l2, ag2))
                  case atStart => exact ⟨0, l2, ag2, by omega, rfl, rfl, rfl, HW.out, HO2.out, HK.out, by rw [List.drop_zero]⟩
                  case round =>
                    clear HW HO2 HK
                    obtain ⟨j, l3, ag3, hj, rfl, rfl, rfl, hW, hO3, hK, hf3⟩ := hrel
                    have HW := hidI hW
                    have HO3 := hidI hO3
                    have HKy := hidI hK
                    have HF3 := hidI hf3
                    have hBr := (hK.block _ (ltHeap HBx.out) hxO).trans HBx.out
                    have b1 := (blk hBr).1 1
                    have zb := ltHeap hBr
                    simp only [List.getElem?_toArray, List.getElem?_cons_zero, List.getElem?_cons_succ] at b1
                    clear hW hO3 hf3 hK hBr
                    by_cases hjl : j < B.list.length
                    · obtain ⟨ib, io, pq, pc, hiq, i0, i1, i2, i3, i4, i5, i6, i7, _, _, _, _, _, _, _⟩ := insGet HIn.out (Below.refl _ _) hjl
                      subst hiq
                      replace i0 := (HW.out.below.cell (p := ⟨ib, io + j * 8, none⟩) (lt_of_cell i0)).trans i0
                      replace i1 := (HW.out.below.cell (p := ⟨ib, io + j * 8 + 1, none⟩) (lt_of_cell i1)).trans i1
                      replace i2 := (HW.out.below.cell (p := ⟨ib, io + j * 8 + 2, none⟩) (lt_of_cell i2)).trans i2
                      replace i3 := (HW.out.below.cell (p := ⟨ib, io + j * 8 + 3, none⟩) (lt_of_cell i3)).trans i3
                      replace i4 := (HW.out.below.cell (p := ⟨ib, io + j * 8 + 4, none⟩) (lt_of_cell i4)).trans i4
                      replace i5 := (HW.out.below.cell (p := ⟨ib, io + j * 8 + 5, none⟩) (lt_of_cell i5)).trans i5
                      replace i6 := (HW.out.below.cell (p := ⟨ib, io + j * 8 + 6, none⟩) (lt_of_cell i6)).trans i6
                      replace i7 := (HW.out.below.cell (p := ⟨ib, io + j * 8 + 7, none⟩) (lt_of_cell i7)).trans i7
                      have hzi := lt_of_cell i0
                      have hIt : ItOk f.regs.toNat (.ins B.list[j]) := HMem.out _ (List.mem_append_right _ (List.mem_map_of_mem (List.getElem_mem hjl)))
                      have hff := HF3.out
                      rw [List.drop_eq_getElem_cons hjl, List.map_cons, List.foldl_cons] at hff
                      have HFF := hidI hff
                      have HIt := hidI hIt
                      clear hff hIt HF3
                      generalize B.list[j] = x at *
                      by_cases hneg : x.dst < 0
                      · have hff := HFF.out
                        rw [itS_no hneg] at hff
                        have HFF2 := hidI hff
                        clear hff HFF
                        go_wp2_with fail
                        go_roundg (B.list.length - (j + 1))
                        case measure => omega
                        case rel => exact ⟨j + 1, l3, ag3, by omega, rfl, rfl, by go_num, HW.out, HO3.out, HKy.out, HFF2.out⟩
                      · obtain ⟨d, hd⟩ : ∃ d : Nat, x.dst = d := ⟨x.dst.toNat, by omega⟩
                        have hIt2 := HIt.out
                        obtain ⟨g1, g2, g3, _, _, ga, gb⟩ := hIt2
                        have hdR : d < R := by have h2 := HRn.out; omega
                        rw [HRn.out] at ga gb
                        have Hga := hidI ga
                        have Hgb := hidI gb
                        have hvo : SpOk (vlS l3 (x.ar, x.an)) := HO3.out.vl (by assumption)
                        have hvp : SpOk (vlS l3 (x.br, x.bn)) := HO3.out.vl (by assumption)
                        have HMkOk : Hid (SpOk (makS x.op (vlS l3 (x.ar, x.an)) (vlS l3 (x.br, x.bn)))) := hidI (HO3.out.made HIt.out)
                        have hit := itS_ins (t := t) (l := l3) (ag := ag3) hd rfl
                        have hOk3 := HO3.out.it (turn := t) (s := (l3, ag3)) HIt.out
                        have hff := HFF.out
                        rw [hit] at hOk3 hff
                        have HVa := hidI (fun y (hb : Below wr.heap.size wr y) => rVal_any (w.heap.size + 1) R l3 x.ar x.an y (by omega) (HW.out.next hb).o Hga.out)
                        have HVb := hidI (fun y (hb : Below wr.heap.size wr y) => rVal_any (w.heap.size + 1) R l3 x.br x.bn y (by omega) (HW.out.next hb).o Hgb.out)
                        obtain ⟨va, hva⟩ : ∃ va, va = vlS l3 (x.ar, x.an) := ⟨_, rfl⟩
                        obtain ⟨vb, hvb⟩ : ∃ vb, vb = vlS l3 (x.br, x.bn) := ⟨_, rfl⟩
                        rw [← hva] at hvo HMkOk hOk3 hff HVa
                        rw [← hvb] at hvp HMkOk hOk3 hff HVb
                        clear hva hvb
                        have HMk := hidI (fun y => rMakes_any x.op va vb y ⟨g2, g3⟩ hvo hvp)
                        obtain ⟨mk, hmk⟩ : ∃ mk, mk = makS x.op va vb := ⟨_, rfl⟩
                        rw [← hmk] at HMk HMkOk hOk3 hff
                        clear hmk hvo hvp
                        obtain ⟨sn, hsn⟩ : ∃ sn, sn = newS t (l3 d) mk := ⟨_, rfl⟩
                        have HWid := hidI (fun y => rWiden_any (l3 d) mk t y (HO3.out d) HMkOk.out (by omega))
                        have hq := fun w => run_chg (turn := t) (l := l3) (d := d) (s := mk) (HO3.out d) HMkOk.out w
                        obtain ⟨C, hC⟩ : ∃ C, C = chgS l3 d mk := ⟨_, rfl⟩
                        have HPut := hidI (show putSp t l3 d mk = setS l3 d sn by rw [hsn]; rfl)
                        rw [← hsn, ← hC] at hq
                        rw [← hsn] at HWid
                        have HC := hidI hC
                        have Hq := hidI hq
                        have HOk4 := hidI hOk3
                        have HFF2 := hidI hff
                        have hge : decide (x.dst < 0) = false := by simp; omega
                        rw [hd] at i1 hge
                        clear hit hOk3 hff HFF HIt hneg ga gb hd hsn hC hq
                        go_wp2_with fail
                        have zO := HW.out.o.lt
                        have HAll := hidI (show ∀ w', Below wr.heap.size wr w' → w'.cell? ⟨bx, 1, none⟩ = some (.slice (some ⟨ib, io, none⟩) B.list.length c2) ∧ w'.cell? ⟨ib, io + j * 8, none⟩ = some (.int .i64 x.op) ∧ w'.cell? ⟨ib, io + j * 8 + 2, none⟩ = some (.bool x.ar) ∧ w'.cell? ⟨ib, io + j * 8 + 3, none⟩ = some (.int .i64 x.an) ∧ w'.cell? ⟨ib, io + j * 8 + 4, none⟩ = some (.bool x.br) ∧ w'.cell? ⟨ib, io + j * 8 + 5, none⟩ = some (.int .i64 x.bn) ∧ w'.cell? ⟨w.heap.size + 1, d * 3, none⟩ = some (.int .i64 (l3 d).lo) ∧ w'.cell? ⟨w.heap.size + 1, d * 3 + 1, none⟩ = some (.int .i64 (l3 d).hi) ∧ w'.cell? ⟨w.heap.size + 1, d * 3 + 2, none⟩ = some (.bool (l3 d).has) from fun w' h => by
                          have hr := (HW.out.next h).o
                          exact ⟨(h.cell (p := ⟨bx, 1, none⟩) zb).trans b1, (h.cell (p := ⟨ib, io + j * 8, none⟩) hzi).trans i0, (h.cell (p := ⟨ib, io + j * 8 + 2, none⟩) hzi).trans i2, (h.cell (p := ⟨ib, io + j * 8 + 3, none⟩) hzi).trans i3, (h.cell (p := ⟨ib, io + j * 8 + 4, none⟩) hzi).trans i4, (h.cell (p := ⟨ib, io + j * 8 + 5, none⟩) hzi).trans i5, (hr.cell (i := d * 3) (by omega)).trans (by rw [spF_0]), (hr.cell (i := d * 3 + 1) (by omega)).trans (by rw [spF_1]), (hr.cell (i := d * 3 + 2) (by omega)).trans (by rw [spF_2])⟩)
                        clear i0 i1 i2 i3 i4 i5 i6 i7 b1
                        refine wp_region_calm (S := fun w' => Below wr.heap.size wr w') (by kernel_rfl) 30 ?_
                        obtain ⟨y0, hy0⟩ : ∃ y0, y0 = wr.drew := ⟨_, rfl⟩
                        have hb0 : Below wr.heap.size wr y0 := by rw [hy0]; exact (Below.refl _ _).drew
                        rw [← hy0]
                        clear hy0
                        refine takeZ 0 118 (.slice (some ⟨w.heap.size + 1, 0, none⟩) R R) rfl rfl (by kernel_rfl) (by kernel_rfl) (by kernel_rfl) (by kernel_rfl) (fun _ _ _ h => h) (Or.inl ⟨by rfl, fun w' h => ?_⟩) hb0 ?_
                        · obtain ⟨h1, h2, h3, h4, h5, h6, h7, h8, h9⟩ := HAll.out w' h
                          go_simp
                        refine takeZ 1 119 (.int .i64 (d : Int)) rfl rfl (by kernel_rfl) (by kernel_rfl) (by kernel_rfl) (by kernel_rfl) (fun _ _ _ h => h) (Or.inl ⟨by rfl, fun w' h => ?_⟩) hb0 ?_
                        · obtain ⟨h1, h2, h3, h4, h5, h6, h7, h8, h9⟩ := HAll.out w' h
                          go_simp
                        refine takeZ 2 120 (.pointer (some ⟨w.heap.size + 1, d * 3, none⟩)) rfl rfl (by kernel_rfl) (by kernel_rfl) (by kernel_rfl) (by kernel_rfl) (fun _ _ _ h => h) (Or.inl ⟨by rfl, fun w' h => ?_⟩) hb0 ?_
                        · obtain ⟨h1, h2, h3, h4, h5, h6, h7, h8, h9⟩ := HAll.out w' h
                          go_simp
                        refine takeZ 3 121 (.agg #[.int .i64 (l3 d).lo, .int .i64 (l3 d).hi, .bool (l3 d).has]) rfl rfl (by kernel_rfl) (by kernel_rfl) (by kernel_rfl) (by kernel_rfl) (fun _ _ _ h => h) (Or.inl ⟨by rfl, fun w' h => ?_⟩) hb0 ?_
                        · obtain ⟨h1, h2, h3, h4, h5, h6, h7, h8, h9⟩ := HAll.out w' h
                          go_simp
                        refine takeZ 4 122 (.pointer (some ⟨bx, 1, none⟩)) rfl rfl (by kernel_rfl) (by kernel_rfl) (by kernel_rfl) (by kernel_rfl) (fun _ _ _ h => h) (Or.inl ⟨by rfl, fun w' h => ?_⟩) hb0 ?_
                        · obtain ⟨h1, h2, h3, h4, h5, h6, h7, h8, h9⟩ := HAll.out w' h
                          go_simp
                        refine takeZ 5 123 (.slice (some ⟨ib, io, none⟩) B.list.length c2) rfl rfl (by kernel_rfl) (by kernel_rfl) (by kernel_rfl) (by kernel_rfl) (fun _ _ _ h => h) (Or.inl ⟨by rfl, fun w' h => ?_⟩) hb0 ?_
                        · obtain ⟨h1, h2, h3, h4, h5, h6, h7, h8, h9⟩ := HAll.out w' h
                          go_simp
                        refine takeZ 6 124 (.int .i64 (j : Int)) rfl rfl (by kernel_rfl) (by kernel_rfl) (by kernel_rfl) (by kernel_rfl) (fun _ _ _ h => h) (Or.inl ⟨by rfl, fun w' h => ?_⟩) hb0 ?_
                        · obtain ⟨h1, h2, h3, h4, h5, h6, h7, h8, h9⟩ := HAll.out w' h
                          go_simp
                        refine takeZ 7 125 (.pointer (some ⟨ib, io + j * 8, none⟩)) rfl rfl (by kernel_rfl) (by kernel_rfl) (by kernel_rfl) (by kernel_rfl) (fun _ _ _ h => h) (Or.inl ⟨by rfl, fun w' h => ?_⟩) hb0 ?_
                        · obtain ⟨h1, h2, h3, h4, h5, h6, h7, h8, h9⟩ := HAll.out w' h
                          go_simp
                        refine takeZ 8 126 (.pointer (some ⟨ib, io + j * 8, none⟩)) rfl rfl (by kernel_rfl) (by kernel_rfl) (by kernel_rfl) (by kernel_rfl) (fun _ _ _ h => h) (Or.inl ⟨by rfl, fun w' h => ?_⟩) hb0 ?_
                        · obtain ⟨h1, h2, h3, h4, h5, h6, h7, h8, h9⟩ := HAll.out w' h
                          go_simp
                        refine takeZ 9 127 (.int .i64 x.op) rfl rfl (by kernel_rfl) (by kernel_rfl) (by kernel_rfl) (by kernel_rfl) (fun _ _ _ h => h) (Or.inl ⟨by rfl, fun w' h => ?_⟩) hb0 ?_
                        · obtain ⟨h1, h2, h3, h4, h5, h6, h7, h8, h9⟩ := HAll.out w' h
                          go_simp
                        refine takeZ 10 128 (.slice (some ⟨w.heap.size + 1, 0, none⟩) R R) rfl rfl (by kernel_rfl) (by kernel_rfl) (by kernel_rfl) (by kernel_rfl) (fun _ _ _ h => h) (Or.inl ⟨by rfl, fun w' h => ?_⟩) hb0 ?_
                        · obtain ⟨h1, h2, h3, h4, h5, h6, h7, h8, h9⟩ := HAll.out w' h
                          go_simp
                        refine takeZ 11 129 (.pointer (some ⟨bx, 1, none⟩)) rfl rfl (by kernel_rfl) (by kernel_rfl) (by kernel_rfl) (by kernel_rfl) (fun _ _ _ h => h) (Or.inl ⟨by rfl, fun w' h => ?_⟩) hb0 ?_
                        · obtain ⟨h1, h2, h3, h4, h5, h6, h7, h8, h9⟩ := HAll.out w' h
                          go_simp
                        refine takeZ 12 130 (.slice (some ⟨ib, io, none⟩) B.list.length c2) rfl rfl (by kernel_rfl) (by kernel_rfl) (by kernel_rfl) (by kernel_rfl) (fun _ _ _ h => h) (Or.inl ⟨by rfl, fun w' h => ?_⟩) hb0 ?_
                        · obtain ⟨h1, h2, h3, h4, h5, h6, h7, h8, h9⟩ := HAll.out w' h
                          go_simp
                        refine takeZ 13 131 (.int .i64 (j : Int)) rfl rfl (by kernel_rfl) (by kernel_rfl) (by kernel_rfl) (by kernel_rfl) (fun _ _ _ h => h) (Or.inl ⟨by rfl, fun w' h => ?_⟩) hb0 ?_
                        · obtain ⟨h1, h2, h3, h4, h5, h6, h7, h8, h9⟩ := HAll.out w' h
                          go_simp
                        refine takeZ 14 132 (.pointer (some ⟨ib, io + j * 8, none⟩)) rfl rfl (by kernel_rfl) (by kernel_rfl) (by kernel_rfl) (by kernel_rfl) (fun _ _ _ h => h) (Or.inl ⟨by rfl, fun w' h => ?_⟩) hb0 ?_
                        · obtain ⟨h1, h2, h3, h4, h5, h6, h7, h8, h9⟩ := HAll.out w' h
                          go_simp
                        refine takeZ 15 133 (.pointer (some ⟨ib, io + j * 8 + 2, none⟩)) rfl rfl (by kernel_rfl) (by kernel_rfl) (by kernel_rfl) (by kernel_rfl) (fun _ _ _ h => h) (Or.inl ⟨by rfl, fun w' h => ?_⟩) hb0 ?_
                        · obtain ⟨h1, h2, h3, h4, h5, h6, h7, h8, h9⟩ := HAll.out w' h
                          go_simp
                        refine takeZ 16 134 (.agg #[.bool x.ar, .int .i64 x.an]) rfl rfl (by kernel_rfl) (by kernel_rfl) (by kernel_rfl) (by kernel_rfl) (fun _ _ _ h => h) (Or.inl ⟨by rfl, fun w' h => ?_⟩) hb0 ?_
                        · obtain ⟨h1, h2, h3, h4, h5, h6, h7, h8, h9⟩ := HAll.out w' h
                          go_simp
                        refine takeZ 18 136 (.slice (some ⟨w.heap.size + 1, 0, none⟩) R R) rfl rfl (by kernel_rfl) (by kernel_rfl) (by kernel_rfl) (by kernel_rfl) (fun _ _ _ h => h) (Or.inl ⟨by rfl, fun w' h => ?_⟩) hb0 ?_
                        · obtain ⟨h1, h2, h3, h4, h5, h6, h7, h8, h9⟩ := HAll.out w' h
                          go_simp
                        refine takeZ 19 137 (.pointer (some ⟨bx, 1, none⟩)) rfl rfl (by kernel_rfl) (by kernel_rfl) (by kernel_rfl) (by kernel_rfl) (fun _ _ _ h => h) (Or.inl ⟨by rfl, fun w' h => ?_⟩) hb0 ?_
                        · obtain ⟨h1, h2, h3, h4, h5, h6, h7, h8, h9⟩ := HAll.out w' h
                          go_simp
                        refine takeZ 20 138 (.slice (some ⟨ib, io, none⟩) B.list.length c2) rfl rfl (by kernel_rfl) (by kernel_rfl) (by kernel_rfl) (by kernel_rfl) (fun _ _ _ h => h) (Or.inl ⟨by rfl, fun w' h => ?_⟩) hb0 ?_
                        · obtain ⟨h1, h2, h3, h4, h5, h6, h7, h8, h9⟩ := HAll.out w' h
                          go_simp
                        refine takeZ 21 139 (.int .i64 (j : Int)) rfl rfl (by kernel_rfl) (by kernel_rfl) (by kernel_rfl) (by kernel_rfl) (fun _ _ _ h => h) (Or.inl ⟨by rfl, fun w' h => ?_⟩) hb0 ?_
                        · obtain ⟨h1, h2, h3, h4, h5, h6, h7, h8, h9⟩ := HAll.out w' h
                          go_simp
                        refine takeZ 22 140 (.pointer (some ⟨ib, io + j * 8, none⟩)) rfl rfl (by kernel_rfl) (by kernel_rfl) (by kernel_rfl) (by kernel_rfl) (fun _ _ _ h => h) (Or.inl ⟨by rfl, fun w' h => ?_⟩) hb0 ?_
                        · obtain ⟨h1, h2, h3, h4, h5, h6, h7, h8, h9⟩ := HAll.out w' h
                          go_simp
                        refine takeZ 23 141 (.pointer (some ⟨ib, io + j * 8 + 4, none⟩)) rfl rfl (by kernel_rfl) (by kernel_rfl) (by kernel_rfl) (by kernel_rfl) (fun _ _ _ h => h) (Or.inl ⟨by rfl, fun w' h => ?_⟩) hb0 ?_
                        · obtain ⟨h1, h2, h3, h4, h5, h6, h7, h8, h9⟩ := HAll.out w' h
                          go_simp
                        refine takeZ 24 142 (.agg #[.bool x.br, .int .i64 x.bn]) rfl rfl (by kernel_rfl) (by kernel_rfl) (by kernel_rfl) (by kernel_rfl) (fun _ _ _ h => h) (Or.inl ⟨by rfl, fun w' h => ?_⟩) hb0 ?_
                        · obtain ⟨h1, h2, h3, h4, h5, h6, h7, h8, h9⟩ := HAll.out w' h
                          go_simp
                        refine takeZ 27 145 (.int .i64 (t : Int)) rfl rfl (by kernel_rfl) (by kernel_rfl) (by kernel_rfl) (by kernel_rfl) (fun _ _ _ h => h) (Or.inl ⟨by rfl, fun w' h => ?_⟩) hb0 ?_
                        · obtain ⟨h1, h2, h3, h4, h5, h6, h7, h8, h9⟩ := HAll.out w' h
                          go_simp
                        refine stepZ_2 (i := 17) (j := 29) (by kernel_rfl) ?_ ?_
                        · refine stepZ_callTo 135 rfl rfl rfl (by go_simp) (HVa.out y0 hb0) ?_
                          rintro e y1 ⟨rfl, hb'⟩
                          have hb1 : Below wr.heap.size wr y1 := hb0.trans (hb'.mono hb0.size)
                          clear hb'
                          refine ⟨_, rfl, hb1, ?_⟩
                          refine stepZ_2 (i := 25) (j := 29) (by kernel_rfl) ?_ ?_
                          · refine stepZ_callTo 143 rfl rfl rfl (by go_simp) (HVb.out y1 hb1) ?_
                            rintro e y2 ⟨rfl, hb'⟩
                            have hb2 : Below wr.heap.size wr y2 := hb1.trans (hb'.mono hb1.size)
                            clear hb'
                            refine ⟨_, rfl, hb2, ?_⟩
                            refine stepZ_2 (i := 26) (j := 29) (by kernel_rfl) ?_ ?_
                            · refine stepZ_callTo 144 rfl rfl rfl (by go_simp) (HMk.out y2) ?_
                              rintro e y3 ⟨rfl, hb'⟩
                              have hb3 : Below wr.heap.size wr y3 := hb2.trans (hb'.mono hb2.size)
                              clear hb'
                              refine ⟨_, rfl, hb3, ?_⟩
                              refine stepZ_2 (i := 28) (j := 29) (by kernel_rfl) ?_ ?_
                              · refine stepZ_callTo 146 rfl rfl rfl (by go_simp) (HWid.out y3) ?_
                                rintro e y4 ⟨rfl, hb'⟩
                                have hb4 : Below wr.heap.size wr y4 := hb3.trans (hb'.mono hb3.size)
                                clear hb'
                                refine ⟨_, rfl, hb4, ?_⟩
                                refine stepZ_1 (i := 29) (by kernel_rfl) (stepZ_to 16 (.pointer (some ⟨y4.heap.size, 0, none⟩)) (y4.alloc (.cells #[.int .i64 0, .int .i64 0, .bool false] 40)) rfl rfl rfl (by go_simp) (hb4.alloc hb4.size _) ?_)
                                have HZ : (y4.alloc (.cells #[.int .i64 0, .int .i64 0, .bool false] 40)).heap[y4.heap.size]? = some (.cells #[.int .i64 0, .int .i64 0, .bool false] 40 (0, 0)) := heap_here y4 _
                                have hb5 : Below wr.heap.size wr (y4.alloc (.cells #[.int .i64 0, .int .i64 0, .bool false] 40)) := hb4.alloc hb4.size _
                                obtain ⟨y5, hy⟩ : ∃ y5, y5 = y4.alloc (.cells #[.int .i64 0, .int .i64 0, .bool false] 40) := ⟨_, rfl⟩
                                rw [← hy] at HZ hb5 ⊢
                                obtain ⟨Bn, hBn⟩ : ∃ Bn, Bn = y4.heap.size := ⟨_, rfl⟩
                                have hBw : wr.heap.size ≤ Bn := by rw [hBn]; exact hb4.size
                                rw [← hBn] at HZ ⊢
                                clear hy hBn
                                have hS2 := HZ
                                have z2 := ltHeap hS2
                                have c0 := (blk hS2).1 0
                                have c1 := (blk hS2).1 1
                                have c2 := (blk hS2).1 2
                                have cf := (blk hS2).2
                                simp only [List.getElem?_toArray, List.getElem?_cons_zero, List.getElem?_cons_succ] at c0 c1 c2
                                obtain ⟨Y, hY⟩ : ∃ Y, Y = ((y5.setCell ⟨Bn, 0, none⟩ (.int .i64 sn.lo)).setCell ⟨Bn, 1, none⟩ (.int .i64 sn.hi)).setCell ⟨Bn, 2, none⟩ (.bool sn.has) := ⟨_, rfl⟩
                                refine stepZ_1 (i := 30) (by kernel_rfl) (stepZ_skipNo Y rfl rfl rfl (by rw [hY]; go_simp) (fun h => absurd rfl h) (wpAnyZ_done (by kernel_rfl) ?_ _))
                                have HYn : Hid (Y.heap[Bn]? = some (.cells #[.int .i64 sn.lo, .int .i64 sn.hi, .bool sn.has] 40 (0, 0))) := hidI (by
                                  rw [hY, row_set (row_set (row_set hS2 0 _) 1 _) 2 _]
                                  rfl)
                                have HYb : Hid (Below wr.heap.size wr Y) := hidI (by
                                  rw [hY]
                                  exact ((hb5.setCell hBw _).setCell hBw _).setCell hBw _)
                                clear hY hS2 z2 c0 c1 c2 cf HZ hb0 hb1 hb2 hb3 hb4 hb5
                                simp only [calm, Exit.then]
                                go_simp
                                go_wp2_with fail
                                have hq := Hq.out
                                have HWy := hidI (HW.out.next HYb.out)
                                have hr := HWy.out.o
                                have c0 := hr.cell (i := d * 3) (by omega)
                                have c1 := hr.cell (i := d * 3 + 1) (by omega)
                                have c2 := hr.cell (i := d * 3 + 2) (by omega)
                                have f0' := hr.frozen (d * 3)
                                have f1' := hr.frozen (d * 3 + 1)
                                have f2' := hr.frozen (d * 3 + 2)
                                have zOy := hr.lt
                                rw [spF_0] at c0
                                rw [spF_1] at c1
                                rw [spF_2] at c2
                                have n0 := (blk HYn.out).1 0
                                have n1' := (blk HYn.out).1 1
                                have n2' := (blk HYn.out).1 2
                                have zn := ltHeap HYn.out
                                simp only [List.getElem?_toArray, List.getElem?_cons_zero, List.getElem?_cons_succ] at n0 n1' n2'
                                clear hr
                                cases ag3 with
                                | true =>
                                  go_quiet (fail)
                                  obtain ⟨y5, hy5⟩ : ∃ y5, y5 = Y.drewN nq := ⟨_, rfl⟩
                                  rw [← hy5]
                                  have hb5 : Below wr.heap.size wr y5 := by rw [hy5]; exact below_drewN HYb.out nq
                                  replace c0 : y5.cell? ⟨w.heap.size + 1, d * 3, none⟩ = some (.int .i64 (l3 d).lo) := by rw [hy5]; exact c0
                                  replace c1 : y5.cell? ⟨w.heap.size + 1, d * 3 + 1, none⟩ = some (.int .i64 (l3 d).hi) := by rw [hy5]; exact c1
                                  replace c2 : y5.cell? ⟨w.heap.size + 1, d * 3 + 2, none⟩ = some (.bool (l3 d).has) := by rw [hy5]; exact c2
                                  replace f0' : y5.frozen? ⟨w.heap.size + 1, d * 3, none⟩ = false := by rw [hy5]; exact f0'
                                  replace f1' : y5.frozen? ⟨w.heap.size + 1, d * 3 + 1, none⟩ = false := by rw [hy5]; exact f1'
                                  replace f2' : y5.frozen? ⟨w.heap.size + 1, d * 3 + 2, none⟩ = false := by rw [hy5]; exact f2'
                                  replace n0 : y5.cell? ⟨Bn, 0, none⟩ = some (.int .i64 sn.lo) := by rw [hy5]; exact n0
                                  replace n1' : y5.cell? ⟨Bn, 1, none⟩ = some (.int .i64 sn.hi) := by rw [hy5]; exact n1'
                                  replace n2' : y5.cell? ⟨Bn, 2, none⟩ = some (.bool sn.has) := by rw [hy5]; exact n2'
                                  replace zOy := lt_of_cell c0
                                  replace zn := lt_of_cell n0
                                  clear hy5 HYb HYn HWy
                                  go_wp2_with fail
                                  have hrn := spRow_set (d := d) sn (HW.out.next hb5).o
                                  rw [← HPut.out] at hrn
                                  have hkp := ((((HKy.out.trans (Kept.of_below (S := fun _ => False) hb5) (fun _ _ h => h.elim)).setCell (p := ⟨w.heap.size + 1, d * 3, none⟩) rfl (.int .i64 sn.lo)).setCell (p := ⟨w.heap.size + 1, d * 3 + 1, none⟩) rfl (.int .i64 sn.hi)).setCell (p := ⟨w.heap.size + 1, d * 3 + 2, none⟩) rfl (.bool sn.has))
                                  have hkq := ((((Kept.refl (fun k => k = (w.heap.size + 1)) y5).setCell (p := ⟨w.heap.size + 1, d * 3, none⟩) rfl (.int .i64 sn.lo)).setCell (p := ⟨w.heap.size + 1, d * 3 + 1, none⟩) rfl (.int .i64 sn.hi)).setCell (p := ⟨w.heap.size + 1, d * 3 + 2, none⟩) rfl (.bool sn.has))
                                  go_roundg (B.list.length - (j + 1))
                                  case measure => omega
                                  case rel => exact ⟨j + 1, putSp t l3 d mk, true || chgS l3 d mk, by omega, rfl, by first | rfl | (rw [← HC.out, Bool.false_or]), by go_num, (HW.out.next hb5).put hrn hkq, HOk4.out, hkp, HFF2.out⟩
                                | false =>
                                  go_quiet (fail)
                                  obtain ⟨y5, hy5⟩ : ∃ y5, y5 = Y.drewN nq := ⟨_, rfl⟩
                                  rw [← hy5]
                                  have hb5 : Below wr.heap.size wr y5 := by rw [hy5]; exact below_drewN HYb.out nq
                                  replace c0 : y5.cell? ⟨w.heap.size + 1, d * 3, none⟩ = some (.int .i64 (l3 d).lo) := by rw [hy5]; exact c0
                                  replace c1 : y5.cell? ⟨w.heap.size + 1, d * 3 + 1, none⟩ = some (.int .i64 (l3 d).hi) := by rw [hy5]; exact c1
                                  replace c2 : y5.cell? ⟨w.heap.size + 1, d * 3 + 2, none⟩ = some (.bool (l3 d).has) := by rw [hy5]; exact c2
                                  replace f0' : y5.frozen? ⟨w.heap.size + 1, d * 3, none⟩ = false := by rw [hy5]; exact f0'
                                  replace f1' : y5.frozen? ⟨w.heap.size + 1, d * 3 + 1, none⟩ = false := by rw [hy5]; exact f1'
                                  replace f2' : y5.frozen? ⟨w.heap.size + 1, d * 3 + 2, none⟩ = false := by rw [hy5]; exact f2'
                                  replace n0 : y5.cell? ⟨Bn, 0, none⟩ = some (.int .i64 sn.lo) := by rw [hy5]; exact n0
                                  replace n1' : y5.cell? ⟨Bn, 1, none⟩ = some (.int .i64 sn.hi) := by rw [hy5]; exact n1'
                                  replace n2' : y5.cell? ⟨Bn, 2, none⟩ = some (.bool sn.has) := by rw [hy5]; exact n2'
                                  replace zOy := lt_of_cell c0
                                  replace zn := lt_of_cell n0
                                  clear hy5 HYb HYn HWy
                                  go_wp2_with fail
                                  have hrn := spRow_set (d := d) sn (HW.out.next hb5).o
                                  rw [← HPut.out] at hrn
                                  have hkp := ((((HKy.out.trans (Kept.of_below (S := fun _ => False) hb5) (fun _ _ h => h.elim)).setCell (p := ⟨w.heap.size + 1, d * 3, none⟩) rfl (.int .i64 sn.lo)).setCell (p := ⟨w.heap.size + 1, d * 3 + 1, none⟩) rfl (.int .i64 sn.hi)).setCell (p := ⟨w.heap.size + 1, d * 3 + 2, none⟩) rfl (.bool sn.has))
                                  have hkq := ((((Kept.refl (fun k => k = (w.heap.size + 1)) y5).setCell (p := ⟨w.heap.size + 1, d * 3, none⟩) rfl (.int .i64 sn.lo)).setCell (p := ⟨w.heap.size + 1, d * 3 + 1, none⟩) rfl (.int .i64 sn.hi)).setCell (p := ⟨w.heap.size + 1, d * 3 + 2, none⟩) rfl (.bool sn.has))
                                  go_roundg (B.list.length - (j + 1))
                                  case measure => omega
                                  case rel => exact ⟨j + 1, putSp t l3 d mk, false || chgS l3 d mk, by omega, rfl, by first | rfl | (rw [← HC.out, Bool.false_or]), by go_num, (HW.out.next hb5).put hrn hkq, HOk4.out, hkp, HFF2.out⟩
                              · refine stepZ_to 16 (.pointer (some ⟨y3.heap.size, 0, none⟩)) (y3.alloc (.cells #[.int .i64 0, .int .i64 0, .bool false] 40)) rfl rfl rfl (by go_simp) (hb3.alloc hb3.size _) ?_
                                have HZ : (y3.alloc (.cells #[.int .i64 0, .int .i64 0, .bool false] 40)).heap[y3.heap.size]? = some (.cells #[.int .i64 0, .int .i64 0, .bool false] 40 (0, 0)) := heap_here y3 _
                                have hb4 : Below wr.heap.size wr (y3.alloc (.cells #[.int .i64 0, .int .i64 0, .bool false] 40)) := hb3.alloc hb3.size _
                                obtain ⟨y4, hy⟩ : ∃ y4, y4 = y3.alloc (.cells #[.int .i64 0, .int .i64 0, .bool false] 40) := ⟨_, rfl⟩
                                rw [← hy] at HZ hb4 ⊢
                                obtain ⟨Bn, hBn⟩ : ∃ Bn, Bn = y3.heap.size := ⟨_, rfl⟩
                                have hBw : wr.heap.size ≤ Bn := by rw [hBn]; exact hb3.size
                                rw [← hBn] at HZ ⊢
                                clear hy hBn
                                refine stepZ_1 (i := 28) (by kernel_rfl) (stepZ_callTo 146 rfl rfl rfl (by go_simp) (HWid.out y4) ?_)
                                rintro e y5 ⟨rfl, hb'⟩
                                have hb5 : Below wr.heap.size wr y5 := hb4.trans (hb'.mono hb4.size)
                                replace HZ := (hb'.block _ (ltHeap HZ)).trans HZ
                                clear hb'
                                refine ⟨_, rfl, hb5, ?_⟩
                                have hS2 := HZ
                                have z2 := ltHeap hS2
                                have c0 := (blk hS2).1 0
                                have c1 := (blk hS2).1 1
                                have c2 := (blk hS2).1 2
                                have cf := (blk hS2).2
                                simp only [List.getElem?_toArray, List.getElem?_cons_zero, List.getElem?_cons_succ] at c0 c1 c2
                                obtain ⟨Y, hY⟩ : ∃ Y, Y = ((y5.setCell ⟨Bn, 0, none⟩ (.int .i64 sn.lo)).setCell ⟨Bn, 1, none⟩ (.int .i64 sn.hi)).setCell ⟨Bn, 2, none⟩ (.bool sn.has) := ⟨_, rfl⟩
                                refine stepZ_1 (i := 30) (by kernel_rfl) (stepZ_skipNo Y rfl rfl rfl (by rw [hY]; go_simp) (fun h => absurd rfl h) (wpAnyZ_done (by kernel_rfl) ?_ _))
                                have HYn : Hid (Y.heap[Bn]? = some (.cells #[.int .i64 sn.lo, .int .i64 sn.hi, .bool sn.has] 40 (0, 0))) := hidI (by
                                  rw [hY, row_set (row_set (row_set hS2 0 _) 1 _) 2 _]
                                  rfl)
                                have HYb : Hid (Below wr.heap.size wr Y) := hidI (by
                                  rw [hY]
                                  exact ((hb5.setCell hBw _).setCell hBw _).setCell hBw _)
                                clear hY hS2 z2 c0 c1 c2 cf HZ hb0 hb1 hb2 hb3 hb4 hb5
                                simp only [calm, Exit.then]
                                go_simp
                                go_wp2_with fail
                                have hq := Hq.out
                                have HWy := hidI (HW.out.next HYb.out)
                                have hr := HWy.out.o
                                have c0 := hr.cell (i := d * 3) (by omega)
                                have c1 := hr.cell (i := d * 3 + 1) (by omega)
                                have c2 := hr.cell (i := d * 3 + 2) (by omega)
                                have f0' := hr.frozen (d * 3)
                                have f1' := hr.frozen (d * 3 + 1)
                                have f2' := hr.frozen (d * 3 + 2)
                                have zOy := hr.lt
                                rw [spF_0] at c0
                                rw [spF_1] at c1
                                rw [spF_2] at c2
                                have n0 := (blk HYn.out).1 0
                                have n1' := (blk HYn.out).1 1
                                have n2' := (blk HYn.out).1 2
                                have zn := ltHeap HYn.out
                                simp only [List.getElem?_toArray, List.getElem?_cons_zero, List.getElem?_cons_succ] at n0 n1' n2'
                                clear hr
                                cases ag3 with
                                | true =>
                                  go_quiet (fail)
                                  obtain ⟨y5, hy5⟩ : ∃ y5, y5 = Y.drewN nq := ⟨_, rfl⟩
                                  rw [← hy5]
                                  have hb5 : Below wr.heap.size wr y5 := by rw [hy5]; exact below_drewN HYb.out nq
                                  replace c0 : y5.cell? ⟨w.heap.size + 1, d * 3, none⟩ = some (.int .i64 (l3 d).lo) := by rw [hy5]; exact c0
                                  replace c1 : y5.cell? ⟨w.heap.size + 1, d * 3 + 1, none⟩ = some (.int .i64 (l3 d).hi) := by rw [hy5]; exact c1
                                  replace c2 : y5.cell? ⟨w.heap.size + 1, d * 3 + 2, none⟩ = some (.bool (l3 d).has) := by rw [hy5]; exact c2
                                  replace f0' : y5.frozen? ⟨w.heap.size + 1, d * 3, none⟩ = false := by rw [hy5]; exact f0'
                                  replace f1' : y5.frozen? ⟨w.heap.size + 1, d * 3 + 1, none⟩ = false := by rw [hy5]; exact f1'
                                  replace f2' : y5.frozen? ⟨w.heap.size + 1, d * 3 + 2, none⟩ = false := by rw [hy5]; exact f2'
                                  replace n0 : y5.cell? ⟨Bn, 0, none⟩ = some (.int .i64 sn.lo) := by rw [hy5]; exact n0
                                  replace n1' : y5.cell? ⟨Bn, 1, none⟩ = some (.int .i64 sn.hi) := by rw [hy5]; exact n1'
                                  replace n2' : y5.cell? ⟨Bn, 2, none⟩ = some (.bool sn.has) := by rw [hy5]; exact n2'
                                  replace zOy := lt_of_cell c0
                                  replace zn := lt_of_cell n0
                                  clear hy5 HYb HYn HWy
                                  go_wp2_with fail
                                  have hrn := spRow_set (d := d) sn (HW.out.next hb5).o
                                  rw [← HPut.out] at hrn
                                  have hkp := ((((HKy.out.trans (Kept.of_below (S := fun _ => False) hb5) (fun _ _ h => h.elim)).setCell (p := ⟨w.heap.size + 1, d * 3, none⟩) rfl (.int .i64 sn.lo)).setCell (p := ⟨w.heap.size + 1, d * 3 + 1, none⟩) rfl (.int .i64 sn.hi)).setCell (p := ⟨w.heap.size + 1, d * 3 + 2, none⟩) rfl (.bool sn.has))
                                  have hkq := ((((Kept.refl (fun k => k = (w.heap.size + 1)) y5).setCell (p := ⟨w.heap.size + 1, d * 3, none⟩) rfl (.int .i64 sn.lo)).setCell (p := ⟨w.heap.size + 1, d * 3 + 1, none⟩) rfl (.int .i64 sn.hi)).setCell (p := ⟨w.heap.size + 1, d * 3 + 2, none⟩) rfl (.bool sn.has))
                                  go_roundg (B.list.length - (j + 1))
                                  case measure => omega
                                  case rel => exact ⟨j + 1, putSp t l3 d mk, true || chgS l3 d mk, by omega, rfl, by first | rfl | (rw [← HC.out, Bool.false_or]), by go_num, (HW.out.next hb5).put hrn hkq, HOk4.out, hkp, HFF2.out⟩
                                | false =>
                                  go_quiet (fail)
                                  obtain ⟨y5, hy5⟩ : ∃ y5, y5 = Y.drewN nq := ⟨_, rfl⟩
                                  rw [← hy5]
                                  have hb5 : Below wr.heap.size wr y5 := by rw [hy5]; exact below_drewN HYb.out nq
                                  replace c0 : y5.cell? ⟨w.heap.size + 1, d * 3, none⟩ = some (.int .i64 (l3 d).lo) := by rw [hy5]; exact c0
                                  replace c1 : y5.cell? ⟨w.heap.size + 1, d * 3 + 1, none⟩ = some (.int .i64 (l3 d).hi) := by rw [hy5]; exact c1
                                  replace c2 : y5.cell? ⟨w.heap.size + 1, d * 3 + 2, none⟩ = some (.bool (l3 d).has) := by rw [hy5]; exact c2
                                  replace f0' : y5.frozen? ⟨w.heap.size + 1, d * 3, none⟩ = false := by rw [hy5]; exact f0'
                                  replace f1' : y5.frozen? ⟨w.heap.size + 1, d * 3 + 1, none⟩ = false := by rw [hy5]; exact f1'
                                  replace f2' : y5.frozen? ⟨w.heap.size + 1, d * 3 + 2, none⟩ = false := by rw [hy5]; exact f2'
                                  replace n0 : y5.cell? ⟨Bn, 0, none⟩ = some (.int .i64 sn.lo) := by rw [hy5]; exact n0
                                  replace n1' : y5.cell? ⟨Bn, 1, none⟩ = some (.int .i64 sn.hi) := by rw [hy5]; exact n1'
                                  replace n2' : y5.cell? ⟨Bn, 2, none⟩ = some (.bool sn.has) := by rw [hy5]; exact n2'
                                  replace zOy := lt_of_cell c0
                                  replace zn := lt_of_cell n0
                                  clear hy5 HYb HYn HWy
                                  go_wp2_with fail
                                  have hrn := spRow_set (d := d) sn (HW.out.next hb5).o
                                  rw [← HPut.out] at hrn
                                  have hkp := ((((HKy.out.trans (Kept.of_below (S := fun _ => False) hb5) (fun _ _ h => h.elim)).setCell (p := ⟨w.heap.size + 1, d * 3, none⟩) rfl (.int .i64 sn.lo)).setCell (p := ⟨w.heap.size + 1, d * 3 + 1, none⟩) rfl (.int .i64 sn.hi)).setCell (p := ⟨w.heap.size + 1, d * 3 + 2, none⟩) rfl (.bool sn.has))
                                  have hkq := ((((Kept.refl (fun k => k = (w.heap.size + 1)) y5).setCell (p := ⟨w.heap.size + 1, d * 3, none⟩) rfl (.int .i64 sn.lo)).setCell (p := ⟨w.heap.size + 1, d * 3 + 1, none⟩) rfl (.int .i64 sn.hi)).setCell (p := ⟨w.heap.size + 1, d * 3 + 2, none⟩) rfl (.bool sn.has))
                                  go_roundg (B.list.length - (j + 1))
                                  case measure => omega
                                  case rel => exact ⟨j + 1, putSp t l3 d mk, false || chgS l3 d mk, by omega, rfl, by first | rfl | (rw [← HC.out, Bool.false_or]), by go_num, (HW.out.next hb5).put hrn hkq, HOk4.out, hkp, HFF2.out⟩
                            · refine stepZ_to 16 (.pointer (some ⟨y2.heap.size, 0, none⟩)) (y2.alloc (.cells #[.int .i64 0, .int .i64 0, .bool false] 40)) rfl rfl rfl (by go_simp) (hb2.alloc hb2.size _) ?_
                              have HZ : (y2.alloc (.cells #[.int .i64 0, .int .i64 0, .bool false] 40)).heap[y2.heap.size]? = some (.cells #[.int .i64 0, .int .i64 0, .bool false] 40 (0, 0)) := heap_here y2 _
                              have hb3 : Below wr.heap.size wr (y2.alloc (.cells #[.int .i64 0, .int .i64 0, .bool false] 40)) := hb2.alloc hb2.size _
                              obtain ⟨y3, hy⟩ : ∃ y3, y3 = y2.alloc (.cells #[.int .i64 0, .int .i64 0, .bool false] 40) := ⟨_, rfl⟩
                              rw [← hy] at HZ hb3 ⊢
                              obtain ⟨Bn, hBn⟩ : ∃ Bn, Bn = y2.heap.size := ⟨_, rfl⟩
                              have hBw : wr.heap.size ≤ Bn := by rw [hBn]; exact hb2.size
                              rw [← hBn] at HZ ⊢
                              clear hy hBn
                              refine stepZ_1 (i := 26) (by kernel_rfl) (stepZ_callTo 144 rfl rfl rfl (by go_simp) (HMk.out y3) ?_)
                              rintro e y4 ⟨rfl, hb'⟩
                              have hb4 : Below wr.heap.size wr y4 := hb3.trans (hb'.mono hb3.size)
                              replace HZ := (hb'.block _ (ltHeap HZ)).trans HZ
                              clear hb'
                              refine ⟨_, rfl, hb4, ?_⟩
                              refine stepZ_1 (i := 28) (by kernel_rfl) (stepZ_callTo 146 rfl rfl rfl (by go_simp) (HWid.out y4) ?_)
                              rintro e y5 ⟨rfl, hb'⟩
                              have hb5 : Below wr.heap.size wr y5 := hb4.trans (hb'.mono hb4.size)
                              replace HZ := (hb'.block _ (ltHeap HZ)).trans HZ
                              clear hb'
                              refine ⟨_, rfl, hb5, ?_⟩
                              have hS2 := HZ
                              have z2 := ltHeap hS2
                              have c0 := (blk hS2).1 0
                              have c1 := (blk hS2).1 1
                              have c2 := (blk hS2).1 2
                              have cf := (blk hS2).2
                              simp only [List.getElem?_toArray, List.getElem?_cons_zero, List.getElem?_cons_succ] at c0 c1 c2
                              obtain ⟨Y, hY⟩ : ∃ Y, Y = ((y5.setCell ⟨Bn, 0, none⟩ (.int .i64 sn.lo)).setCell ⟨Bn, 1, none⟩ (.int .i64 sn.hi)).setCell ⟨Bn, 2, none⟩ (.bool sn.has) := ⟨_, rfl⟩
                              refine stepZ_1 (i := 30) (by kernel_rfl) (stepZ_skipNo Y rfl rfl rfl (by rw [hY]; go_simp) (fun h => absurd rfl h) (wpAnyZ_done (by kernel_rfl) ?_ _))
                              have HYn : Hid (Y.heap[Bn]? = some (.cells #[.int .i64 sn.lo, .int .i64 sn.hi, .bool sn.has] 40 (0, 0))) := hidI (by
                                rw [hY, row_set (row_set (row_set hS2 0 _) 1 _) 2 _]
                                rfl)
                              have HYb : Hid (Below wr.heap.size wr Y) := hidI (by
                                rw [hY]
                                exact ((hb5.setCell hBw _).setCell hBw _).setCell hBw _)
                              clear hY hS2 z2 c0 c1 c2 cf HZ hb0 hb1 hb2 hb3 hb4 hb5
                              simp only [calm, Exit.then]
                              go_simp
                              go_wp2_with fail
                              have hq := Hq.out
                              have HWy := hidI (HW.out.next HYb.out)
                              have hr := HWy.out.o
                              have c0 := hr.cell (i := d * 3) (by omega)
                              have c1 := hr.cell (i := d * 3 + 1) (by omega)
                              have c2 := hr.cell (i := d * 3 + 2) (by omega)
                              have f0' := hr.frozen (d * 3)
                              have f1' := hr.frozen (d * 3 + 1)
                              have f2' := hr.frozen (d * 3 + 2)
                              have zOy := hr.lt
                              rw [spF_0] at c0
                              rw [spF_1] at c1
                              rw [spF_2] at c2
                              have n0 := (blk HYn.out).1 0
                              have n1' := (blk HYn.out).1 1
                              have n2' := (blk HYn.out).1 2
                              have zn := ltHeap HYn.out
                              simp only [List.getElem?_toArray, List.getElem?_cons_zero, List.getElem?_cons_succ] at n0 n1' n2'
                              clear hr
                              cases ag3 with
                              | true =>
                                go_quiet (fail)
                                obtain ⟨y5, hy5⟩ : ∃ y5, y5 = Y.drewN nq := ⟨_, rfl⟩
                                rw [← hy5]
                                have hb5 : Below wr.heap.size wr y5 := by rw [hy5]; exact below_drewN HYb.out nq
                                replace c0 : y5.cell? ⟨w.heap.size + 1, d * 3, none⟩ = some (.int .i64 (l3 d).lo) := by rw [hy5]; exact c0
                                replace c1 : y5.cell? ⟨w.heap.size + 1, d * 3 + 1, none⟩ = some (.int .i64 (l3 d).hi) := by rw [hy5]; exact c1
                                replace c2 : y5.cell? ⟨w.heap.size + 1, d * 3 + 2, none⟩ = some (.bool (l3 d).has) := by rw [hy5]; exact c2
                                replace f0' : y5.frozen? ⟨w.heap.size + 1, d * 3, none⟩ = false := by rw [hy5]; exact f0'
                                replace f1' : y5.frozen? ⟨w.heap.size + 1, d * 3 + 1, none⟩ = false := by rw [hy5]; exact f1'
                                replace f2' : y5.frozen? ⟨w.heap.size + 1, d * 3 + 2, none⟩ = false := by rw [hy5]; exact f2'
                                replace n0 : y5.cell? ⟨Bn, 0, none⟩ = some (.int .i64 sn.lo) := by rw [hy5]; exact n0
                                replace n1' : y5.cell? ⟨Bn, 1, none⟩ = some (.int .i64 sn.hi) := by rw [hy5]; exact n1'
                                replace n2' : y5.cell? ⟨Bn, 2, none⟩ = some (.bool sn.has) := by rw [hy5]; exact n2'
                                replace zOy := lt_of_cell c0
                                replace zn := lt_of_cell n0
                                clear hy5 HYb HYn HWy
                                go_wp2_with fail
                                have hrn := spRow_set (d := d) sn (HW.out.next hb5).o
                                rw [← HPut.out] at hrn
                                have hkp := ((((HKy.out.trans (Kept.of_below (S := fun _ => False) hb5) (fun _ _ h => h.elim)).setCell (p := ⟨w.heap.size + 1, d * 3, none⟩) rfl (.int .i64 sn.lo)).setCell (p := ⟨w.heap.size + 1, d * 3 + 1, none⟩) rfl (.int .i64 sn.hi)).setCell (p := ⟨w.heap.size + 1, d * 3 + 2, none⟩) rfl (.bool sn.has))
                                have hkq := ((((Kept.refl (fun k => k = (w.heap.size + 1)) y5).setCell (p := ⟨w.heap.size + 1, d * 3, none⟩) rfl (.int .i64 sn.lo)).setCell (p := ⟨w.heap.size + 1, d * 3 + 1, none⟩) rfl (.int .i64 sn.hi)).setCell (p := ⟨w.heap.size + 1, d * 3 + 2, none⟩) rfl (.bool sn.has))
                                go_roundg (B.list.length - (j + 1))
                                case measure => omega
                                case rel => exact ⟨j + 1, putSp t l3 d mk, true || chgS l3 d mk, by omega, rfl, by first | rfl | (rw [← HC.out, Bool.false_or]), by go_num, (HW.out.next hb5).put hrn hkq, HOk4.out, hkp, HFF2.out⟩
                              | false =>
                                go_quiet (fail)
                                obtain ⟨y5, hy5⟩ : ∃ y5, y5 = Y.drewN nq := ⟨_, rfl⟩
                                rw [← hy5]
                                have hb5 : Below wr.heap.size wr y5 := by rw [hy5]; exact below_drewN HYb.out nq
                                replace c0 : y5.cell? ⟨w.heap.size + 1, d * 3, none⟩ = some (.int .i64 (l3 d).lo) := by rw [hy5]; exact c0
                                replace c1 : y5.cell? ⟨w.heap.size + 1, d * 3 + 1, none⟩ = some (.int .i64 (l3 d).hi) := by rw [hy5]; exact c1
                                replace c2 : y5.cell? ⟨w.heap.size + 1, d * 3 + 2, none⟩ = some (.bool (l3 d).has) := by rw [hy5]; exact c2
                                replace f0' : y5.frozen? ⟨w.heap.size + 1, d * 3, none⟩ = false := by rw [hy5]; exact f0'
                                replace f1' : y5.frozen? ⟨w.heap.size + 1, d * 3 + 1, none⟩ = false := by rw [hy5]; exact f1'
                                replace f2' : y5.frozen? ⟨w.heap.size + 1, d * 3 + 2, none⟩ = false := by rw [hy5]; exact f2'
                                replace n0 : y5.cell? ⟨Bn, 0, none⟩ = some (.int .i64 sn.lo) := by rw [hy5]; exact n0
                                replace n1' : y5.cell? ⟨Bn, 1, none⟩ = some (.int .i64 sn.hi) := by rw [hy5]; exact n1'
                                replace n2' : y5.cell? ⟨Bn, 2, none⟩ = some (.bool sn.has) := by rw [hy5]; exact n2'
                                replace zOy := lt_of_cell c0
                                replace zn := lt_of_cell n0
                                clear hy5 HYb HYn HWy
                                go_wp2_with fail
                                have hrn := spRow_set (d := d) sn (HW.out.next hb5).o
                                rw [← HPut.out] at hrn
                                have hkp := ((((HKy.out.trans (Kept.of_below (S := fun _ => False) hb5) (fun _ _ h => h.elim)).setCell (p := ⟨w.heap.size + 1, d * 3, none⟩) rfl (.int .i64 sn.lo)).setCell (p := ⟨w.heap.size + 1, d * 3 + 1, none⟩) rfl (.int .i64 sn.hi)).setCell (p := ⟨w.heap.size + 1, d * 3 + 2, none⟩) rfl (.bool sn.has))
                                have hkq := ((((Kept.refl (fun k => k = (w.heap.size + 1)) y5).setCell (p := ⟨w.heap.size + 1, d * 3, none⟩) rfl (.int .i64 sn.lo)).setCell (p := ⟨w.heap.size + 1, d * 3 + 1, none⟩) rfl (.int .i64 sn.hi)).setCell (p := ⟨w.heap.size + 1, d * 3 + 2, none⟩) rfl (.bool sn.has))
                                go_roundg (B.list.length - (j + 1))
                                case measure => omega
                                case rel => exact ⟨j + 1, putSp t l3 d mk, false || chgS l3 d mk, by omega, rfl, by first | rfl | (rw [← HC.out, Bool.false_or]), by go_num, (HW.out.next hb5).put hrn hkq, HOk4.out, hkp, HFF2.out⟩
                          · refine stepZ_to 16 (.pointer (some ⟨y1.heap.size, 0, none⟩)) (y1.alloc (.cells #[.int .i64 0, .int .i64 0, .bool false] 40)) rfl rfl rfl (by go_simp) (hb1.alloc hb1.size _) ?_
                            have HZ : (y1.alloc (.cells #[.int .i64 0, .int .i64 0, .bool false] 40)).heap[y1.heap.size]? = some (.cells #[.int .i64 0, .int .i64 0, .bool false] 40 (0, 0)) := heap_here y1 _
                            have hb2 : Below wr.heap.size wr (y1.alloc (.cells #[.int .i64 0, .int .i64 0, .bool false] 40)) := hb1.alloc hb1.size _
                            obtain ⟨y2, hy⟩ : ∃ y2, y2 = y1.alloc (.cells #[.int .i64 0, .int .i64 0, .bool false] 40) := ⟨_, rfl⟩
                            rw [← hy] at HZ hb2 ⊢
                            obtain ⟨Bn, hBn⟩ : ∃ Bn, Bn = y1.heap.size := ⟨_, rfl⟩
                            have hBw : wr.heap.size ≤ Bn := by rw [hBn]; exact hb1.size
                            rw [← hBn] at HZ ⊢
                            clear hy hBn
                            refine stepZ_1 (i := 25) (by kernel_rfl) (stepZ_callTo 143 rfl rfl rfl (by go_simp) (HVb.out y2 hb2) ?_)
                            rintro e y3 ⟨rfl, hb'⟩
                            have hb3 : Below wr.heap.size wr y3 := hb2.trans (hb'.mono hb2.size)
                            replace HZ := (hb'.block _ (ltHeap HZ)).trans HZ
                            clear hb'
                            refine ⟨_, rfl, hb3, ?_⟩
                            refine stepZ_1 (i := 26) (by kernel_rfl) (stepZ_callTo 144 rfl rfl rfl (by go_simp) (HMk.out y3) ?_)
                            rintro e y4 ⟨rfl, hb'⟩
                            have hb4 : Below wr.heap.size wr y4 := hb3.trans (hb'.mono hb3.size)
                            replace HZ := (hb'.block _ (ltHeap HZ)).trans HZ
                            clear hb'
                            refine ⟨_, rfl, hb4, ?_⟩
                            refine stepZ_1 (i := 28) (by kernel_rfl) (stepZ_callTo 146 rfl rfl rfl (by go_simp) (HWid.out y4) ?_)
                            rintro e y5 ⟨rfl, hb'⟩
                            have hb5 : Below wr.heap.size wr y5 := hb4.trans (hb'.mono hb4.size)
                            replace HZ := (hb'.block _ (ltHeap HZ)).trans HZ
                            clear hb'
                            refine ⟨_, rfl, hb5, ?_⟩
                            have hS2 := HZ
                            have z2 := ltHeap hS2
                            have c0 := (blk hS2).1 0
                            have c1 := (blk hS2).1 1
                            have c2 := (blk hS2).1 2
                            have cf := (blk hS2).2
                            simp only [List.getElem?_toArray, List.getElem?_cons_zero, List.getElem?_cons_succ] at c0 c1 c2
                            obtain ⟨Y, hY⟩ : ∃ Y, Y = ((y5.setCell ⟨Bn, 0, none⟩ (.int .i64 sn.lo)).setCell ⟨Bn, 1, none⟩ (.int .i64 sn.hi)).setCell ⟨Bn, 2, none⟩ (.bool sn.has) := ⟨_, rfl⟩
                            refine stepZ_1 (i := 30) (by kernel_rfl) (stepZ_skipNo Y rfl rfl rfl (by rw [hY]; go_simp) (fun h => absurd rfl h) (wpAnyZ_done (by kernel_rfl) ?_ _))
                            have HYn : Hid (Y.heap[Bn]? = some (.cells #[.int .i64 sn.lo, .int .i64 sn.hi, .bool sn.has] 40 (0, 0))) := hidI (by
                              rw [hY, row_set (row_set (row_set hS2 0 _) 1 _) 2 _]
                              rfl)
                            have HYb : Hid (Below wr.heap.size wr Y) := hidI (by
                              rw [hY]
                              exact ((hb5.setCell hBw _).setCell hBw _).setCell hBw _)
                            clear hY hS2 z2 c0 c1 c2 cf HZ hb0 hb1 hb2 hb3 hb4 hb5
                            simp only [calm, Exit.then]
                            go_simp
                            go_wp2_with fail
                            have hq := Hq.out
                            have HWy := hidI (HW.out.next HYb.out)
                            have hr := HWy.out.o
                            have c0 := hr.cell (i := d * 3) (by omega)
                            have c1 := hr.cell (i := d * 3 + 1) (by omega)
                            have c2 := hr.cell (i := d * 3 + 2) (by omega)
                            have f0' := hr.frozen (d * 3)
                            have f1' := hr.frozen (d * 3 + 1)
                            have f2' := hr.frozen (d * 3 + 2)
                            have zOy := hr.lt
                            rw [spF_0] at c0
                            rw [spF_1] at c1
                            rw [spF_2] at c2
                            have n0 := (blk HYn.out).1 0
                            have n1' := (blk HYn.out).1 1
                            have n2' := (blk HYn.out).1 2
                            have zn := ltHeap HYn.out
                            simp only [List.getElem?_toArray, List.getElem?_cons_zero, List.getElem?_cons_succ] at n0 n1' n2'
                            clear hr
                            cases ag3 with
                            | true =>
                              go_quiet (fail)
                              obtain ⟨y5, hy5⟩ : ∃ y5, y5 = Y.drewN nq := ⟨_, rfl⟩
                              rw [← hy5]
                              have hb5 : Below wr.heap.size wr y5 := by rw [hy5]; exact below_drewN HYb.out nq
                              replace c0 : y5.cell? ⟨w.heap.size + 1, d * 3, none⟩ = some (.int .i64 (l3 d).lo) := by rw [hy5]; exact c0
                              replace c1 : y5.cell? ⟨w.heap.size + 1, d * 3 + 1, none⟩ = some (.int .i64 (l3 d).hi) := by rw [hy5]; exact c1
                              replace c2 : y5.cell? ⟨w.heap.size + 1, d * 3 + 2, none⟩ = some (.bool (l3 d).has) := by rw [hy5]; exact c2
                              replace f0' : y5.frozen? ⟨w.heap.size + 1, d * 3, none⟩ = false := by rw [hy5]; exact f0'
                              replace f1' : y5.frozen? ⟨w.heap.size + 1, d * 3 + 1, none⟩ = false := by rw [hy5]; exact f1'
                              replace f2' : y5.frozen? ⟨w.heap.size + 1, d * 3 + 2, none⟩ = false := by rw [hy5]; exact f2'
                              replace n0 : y5.cell? ⟨Bn, 0, none⟩ = some (.int .i64 sn.lo) := by rw [hy5]; exact n0
                              replace n1' : y5.cell? ⟨Bn, 1, none⟩ = some (.int .i64 sn.hi) := by rw [hy5]; exact n1'
                              replace n2' : y5.cell? ⟨Bn, 2, none⟩ = some (.bool sn.has) := by rw [hy5]; exact n2'
                              replace zOy := lt_of_cell c0
                              replace zn := lt_of_cell n0
                              clear hy5 HYb HYn HWy
                              go_wp2_with fail
                              have hrn := spRow_set (d := d) sn (HW.out.next hb5).o
                              rw [← HPut.out] at hrn
                              have hkp := ((((HKy.out.trans (Kept.of_below (S := fun _ => False) hb5) (fun _ _ h => h.elim)).setCell (p := ⟨w.heap.size + 1, d * 3, none⟩) rfl (.int .i64 sn.lo)).setCell (p := ⟨w.heap.size + 1, d * 3 + 1, none⟩) rfl (.int .i64 sn.hi)).setCell (p := ⟨w.heap.size + 1, d * 3 + 2, none⟩) rfl (.bool sn.has))
                              have hkq := ((((Kept.refl (fun k => k = (w.heap.size + 1)) y5).setCell (p := ⟨w.heap.size + 1, d * 3, none⟩) rfl (.int .i64 sn.lo)).setCell (p := ⟨w.heap.size + 1, d * 3 + 1, none⟩) rfl (.int .i64 sn.hi)).setCell (p := ⟨w.heap.size + 1, d * 3 + 2, none⟩) rfl (.bool sn.has))
                              go_roundg (B.list.length - (j + 1))
                              case measure => omega
                              case rel => exact ⟨j + 1, putSp t l3 d mk, true || chgS l3 d mk, by omega, rfl, by first | rfl | (rw [← HC.out, Bool.false_or]), by go_num, (HW.out.next hb5).put hrn hkq, HOk4.out, hkp, HFF2.out⟩
                            | false =>
                              go_quiet (fail)
                              obtain ⟨y5, hy5⟩ : ∃ y5, y5 = Y.drewN nq := ⟨_, rfl⟩
                              rw [← hy5]
                              have hb5 : Below wr.heap.size wr y5 := by rw [hy5]; exact below_drewN HYb.out nq
                              replace c0 : y5.cell? ⟨w.heap.size + 1, d * 3, none⟩ = some (.int .i64 (l3 d).lo) := by rw [hy5]; exact c0
                              replace c1 : y5.cell? ⟨w.heap.size + 1, d * 3 + 1, none⟩ = some (.int .i64 (l3 d).hi) := by rw [hy5]; exact c1
                              replace c2 : y5.cell? ⟨w.heap.size + 1, d * 3 + 2, none⟩ = some (.bool (l3 d).has) := by rw [hy5]; exact c2
                              replace f0' : y5.frozen? ⟨w.heap.size + 1, d * 3, none⟩ = false := by rw [hy5]; exact f0'
                              replace f1' : y5.frozen? ⟨w.heap.size + 1, d * 3 + 1, none⟩ = false := by rw [hy5]; exact f1'
                              replace f2' : y5.frozen? ⟨w.heap.size + 1, d * 3 + 2, none⟩ = false := by rw [hy5]; exact f2'
                              replace n0 : y5.cell? ⟨Bn, 0, none⟩ = some (.int .i64 sn.lo) := by rw [hy5]; exact n0
                              replace n1' : y5.cell? ⟨Bn, 1, none⟩ = some (.int .i64 sn.hi) := by rw [hy5]; exact n1'
                              replace n2' : y5.cell? ⟨Bn, 2, none⟩ = some (.bool sn.has) := by rw [hy5]; exact n2'
                              replace zOy := lt_of_cell c0
                              replace zn := lt_of_cell n0
                              clear hy5 HYb HYn HWy
                              go_wp2_with fail
                              have hrn := spRow_set (d := d) sn (HW.out.next hb5).o
                              rw [← HPut.out] at hrn
                              have hkp := ((((HKy.out.trans (Kept.of_below (S := fun _ => False) hb5) (fun _ _ h => h.elim)).setCell (p := ⟨w.heap.size + 1, d * 3, none⟩) rfl (.int .i64 sn.lo)).setCell (p := ⟨w.heap.size + 1, d * 3 + 1, none⟩) rfl (.int .i64 sn.hi)).setCell (p := ⟨w.heap.size + 1, d * 3 + 2, none⟩) rfl (.bool sn.has))
                              have hkq := ((((Kept.refl (fun k => k = (w.heap.size + 1)) y5).setCell (p := ⟨w.heap.size + 1, d * 3, none⟩) rfl (.int .i64 sn.lo)).setCell (p := ⟨w.heap.size + 1, d * 3 + 1, none⟩) rfl (.int .i64 sn.hi)).setCell (p := ⟨w.heap.size + 1, d * 3 + 2, none⟩) rfl (.bool sn.has))
                              go_roundg (B.list.length - (j + 1))
                              case measure => omega
                              case rel => exact ⟨j + 1, putSp t l3 d mk, false || chgS l3 d mk, by omega, rfl, by first | rfl | (rw [← HC.out, Bool.false_or]), by go_num, (HW.out.next hb5).put hrn hkq, HOk4.out, hkp, HFF2.out⟩
                        · refine stepZ_to 16 (.pointer (some ⟨y0.heap.size, 0, none⟩)) (y0.alloc (.cells #[.int .i64 0, .int .i64 0, .bool false] 40)) rfl rfl rfl (by go_simp) (hb0.alloc hb0.size _) ?_
                          have HZ : (y0.alloc (.cells #[.int .i64 0, .int .i64 0, .bool false] 40)).heap[y0.heap.size]? = some (.cells #[.int .i64 0, .int .i64 0, .bool false] 40 (0, 0)) := heap_here y0 _
                          have hb1 : Below wr.heap.size wr (y0.alloc (.cells #[.int .i64 0, .int .i64 0, .bool false] 40)) := hb0.alloc hb0.size _
                          obtain ⟨y1, hy⟩ : ∃ y1, y1 = y0.alloc (.cells #[.int .i64 0, .int .i64 0, .bool false] 40) := ⟨_, rfl⟩
                          rw [← hy] at HZ hb1 ⊢
                          obtain ⟨Bn, hBn⟩ : ∃ Bn, Bn = y0.heap.size := ⟨_, rfl⟩
                          have hBw : wr.heap.size ≤ Bn := by rw [hBn]; exact hb0.size
                          rw [← hBn] at HZ ⊢
                          clear hy hBn
                          refine stepZ_1 (i := 17) (by kernel_rfl) (stepZ_callTo 135 rfl rfl rfl (by go_simp) (HVa.out y1 hb1) ?_)
                          rintro e y2 ⟨rfl, hb'⟩
                          have hb2 : Below wr.heap.size wr y2 := hb1.trans (hb'.mono hb1.size)
                          replace HZ := (hb'.block _ (ltHeap HZ)).trans HZ
                          clear hb'
                          refine ⟨_, rfl, hb2, ?_⟩
                          refine stepZ_1 (i := 25) (by kernel_rfl) (stepZ_callTo 143 rfl rfl rfl (by go_simp) (HVb.out y2 hb2) ?_)
                          rintro e y3 ⟨rfl, hb'⟩
                          have hb3 : Below wr.heap.size wr y3 := hb2.trans (hb'.mono hb2.size)
                          replace HZ := (hb'.block _ (ltHeap HZ)).trans HZ
                          clear hb'
                          refine ⟨_, rfl, hb3, ?_⟩
                          refine stepZ_1 (i := 26) (by kernel_rfl) (stepZ_callTo 144 rfl rfl rfl (by go_simp) (HMk.out y3) ?_)
                          rintro e y4 ⟨rfl, hb'⟩
                          have hb4 : Below wr.heap.size wr y4 := hb3.trans (hb'.mono hb3.size)
                          replace HZ := (hb'.block _ (ltHeap HZ)).trans HZ
                          clear hb'
                          refine ⟨_, rfl, hb4, ?_⟩
                          refine stepZ_1 (i := 28) (by kernel_rfl) (stepZ_callTo 146 rfl rfl rfl (by go_simp) (HWid.out y4) ?_)
                          rintro e y5 ⟨rfl, hb'⟩
                          have hb5 : Below wr.heap.size wr y5 := hb4.trans (hb'.mono hb4.size)
                          replace HZ := (hb'.block _ (ltHeap HZ)).trans HZ
                          clear hb'
                          refine ⟨_, rfl, hb5, ?_⟩
                          have hS2 := HZ
                          have z2 := ltHeap hS2
                          have c0 := (blk hS2).1 0
                          have c1 := (blk hS2).1 1
                          have c2 := (blk hS2).1 2
                          have cf := (blk hS2).2
                          simp only [List.getElem?_toArray, List.getElem?_cons_zero, List.getElem?_cons_succ] at c0 c1 c2
                          obtain ⟨Y, hY⟩ : ∃ Y, Y = ((y5.setCell ⟨Bn, 0, none⟩ (.int .i64 sn.lo)).setCell ⟨Bn, 1, none⟩ (.int .i64 sn.hi)).setCell ⟨Bn, 2, none⟩ (.bool sn.has) := ⟨_, rfl⟩
                          refine stepZ_1 (i := 30) (by kernel_rfl) (stepZ_skipNo Y rfl rfl rfl (by rw [hY]; go_simp) (fun h => absurd rfl h) (wpAnyZ_done (by kernel_rfl) ?_ _))
                          have HYn : Hid (Y.heap[Bn]? = some (.cells #[.int .i64 sn.lo, .int .i64 sn.hi, .bool sn.has] 40 (0, 0))) := hidI (by
                            rw [hY, row_set (row_set (row_set hS2 0 _) 1 _) 2 _]
                            rfl)
                          have HYb : Hid (Below wr.heap.size wr Y) := hidI (by
                            rw [hY]
                            exact ((hb5.setCell hBw _).setCell hBw _).setCell hBw _)
                          clear hY hS2 z2 c0 c1 c2 cf HZ hb0 hb1 hb2 hb3 hb4 hb5
                          simp only [calm, Exit.then]
                          go_simp
                          go_wp2_with fail
                          have hq := Hq.out
                          have HWy := hidI (HW.out.next HYb.out)
                          have hr := HWy.out.o
                          have c0 := hr.cell (i := d * 3) (by omega)
                          have c1 := hr.cell (i := d * 3 + 1) (by omega)
                          have c2 := hr.cell (i := d * 3 + 2) (by omega)
                          have f0' := hr.frozen (d * 3)
                          have f1' := hr.frozen (d * 3 + 1)
                          have f2' := hr.frozen (d * 3 + 2)
                          have zOy := hr.lt
                          rw [spF_0] at c0
                          rw [spF_1] at c1
                          rw [spF_2] at c2
                          have n0 := (blk HYn.out).1 0
                          have n1' := (blk HYn.out).1 1
                          have n2' := (blk HYn.out).1 2
                          have zn := ltHeap HYn.out
                          simp only [List.getElem?_toArray, List.getElem?_cons_zero, List.getElem?_cons_succ] at n0 n1' n2'
                          clear hr
                          cases ag3 with
                          | true =>
                            go_quiet (fail)
                            obtain ⟨y5, hy5⟩ : ∃ y5, y5 = Y.drewN nq := ⟨_, rfl⟩
                            rw [← hy5]
                            have hb5 : Below wr.heap.size wr y5 := by rw [hy5]; exact below_drewN HYb.out nq
                            replace c0 : y5.cell? ⟨w.heap.size + 1, d * 3, none⟩ = some (.int .i64 (l3 d).lo) := by rw [hy5]; exact c0
                            replace c1 : y5.cell? ⟨w.heap.size + 1, d * 3 + 1, none⟩ = some (.int .i64 (l3 d).hi) := by rw [hy5]; exact c1
                            replace c2 : y5.cell? ⟨w.heap.size + 1, d * 3 + 2, none⟩ = some (.bool (l3 d).has) := by rw [hy5]; exact c2
                            replace f0' : y5.frozen? ⟨w.heap.size + 1, d * 3, none⟩ = false := by rw [hy5]; exact f0'
                            replace f1' : y5.frozen? ⟨w.heap.size + 1, d * 3 + 1, none⟩ = false := by rw [hy5]; exact f1'
                            replace f2' : y5.frozen? ⟨w.heap.size + 1, d * 3 + 2, none⟩ = false := by rw [hy5]; exact f2'
                            replace n0 : y5.cell? ⟨Bn, 0, none⟩ = some (.int .i64 sn.lo) := by rw [hy5]; exact n0
                            replace n1' : y5.cell? ⟨Bn, 1, none⟩ = some (.int .i64 sn.hi) := by rw [hy5]; exact n1'
                            replace n2' : y5.cell? ⟨Bn, 2, none⟩ = some (.bool sn.has) := by rw [hy5]; exact n2'
                            replace zOy := lt_of_cell c0
                            replace zn := lt_of_cell n0
                            clear hy5 HYb HYn HWy
                            go_wp2_with fail
                            have hrn := spRow_set (d := d) sn (HW.out.next hb5).o
                            rw [← HPut.out] at hrn
                            have hkp := ((((HKy.out.trans (Kept.of_below (S := fun _ => False) hb5) (fun _ _ h => h.elim)).setCell (p := ⟨w.heap.size + 1, d * 3, none⟩) rfl (.int .i64 sn.lo)).setCell (p := ⟨w.heap.size + 1, d * 3 + 1, none⟩) rfl (.int .i64 sn.hi)).setCell (p := ⟨w.heap.size + 1, d * 3 + 2, none⟩) rfl (.bool sn.has))
                            have hkq := ((((Kept.refl (fun k => k = (w.heap.size + 1)) y5).setCell (p := ⟨w.heap.size + 1, d * 3, none⟩) rfl (.int .i64 sn.lo)).setCell (p := ⟨w.heap.size + 1, d * 3 + 1, none⟩) rfl (.int .i64 sn.hi)).setCell (p := ⟨w.heap.size + 1, d * 3 + 2, none⟩) rfl (.bool sn.has))
                            go_roundg (B.list.length - (j + 1))
                            case measure => omega
                            case rel => exact ⟨j + 1, putSp t l3 d mk, true || chgS l3 d mk, by omega, rfl, by first | rfl | (rw [← HC.out, Bool.false_or]), by go_num, (HW.out.next hb5).put hrn hkq, HOk4.out, hkp, HFF2.out⟩
                          | false =>
                            go_quiet (fail)
                            obtain ⟨y5, hy5⟩ : ∃ y5, y5 = Y.drewN nq := ⟨_, rfl⟩
                            rw [← hy5]
                            have hb5 : Below wr.heap.size wr y5 := by rw [hy5]; exact below_drewN HYb.out nq
                            replace c0 : y5.cell? ⟨w.heap.size + 1, d * 3, none⟩ = some (.int .i64 (l3 d).lo) := by rw [hy5]; exact c0
                            replace c1 : y5.cell? ⟨w.heap.size + 1, d * 3 + 1, none⟩ = some (.int .i64 (l3 d).hi) := by rw [hy5]; exact c1
                            replace c2 : y5.cell? ⟨w.heap.size + 1, d * 3 + 2, none⟩ = some (.bool (l3 d).has) := by rw [hy5]; exact c2
                            replace f0' : y5.frozen? ⟨w.heap.size + 1, d * 3, none⟩ = false := by rw [hy5]; exact f0'
                            replace f1' : y5.frozen? ⟨w.heap.size + 1, d * 3 + 1, none⟩ = false := by rw [hy5]; exact f1'
                            replace f2' : y5.frozen? ⟨w.heap.size + 1, d * 3 + 2, none⟩ = false := by rw [hy5]; exact f2'
                            replace n0 : y5.cell? ⟨Bn, 0, none⟩ = some (.int .i64 sn.lo) := by rw [hy5]; exact n0
                            replace n1' : y5.cell? ⟨Bn, 1, none⟩ = some (.int .i64 sn.hi) := by rw [hy5]; exact n1'
                            replace n2' : y5.cell? ⟨Bn, 2, none⟩ = some (.bool sn.has) := by rw [hy5]; exact n2'
                            replace zOy := lt_of_cell c0
                            replace zn := lt_of_cell n0
                            clear hy5 HYb HYn HWy
                            go_wp2_with fail
                            have hrn := spRow_set (d := d) sn (HW.out.next hb5).o
                            rw [← HPut.out] at hrn
                            have hkp := ((((HKy.out.trans (Kept.of_below (S := fun _ => False) hb5) (fun _ _ h => h.elim)).setCell (p := ⟨w.heap.size + 1, d * 3, none⟩) rfl (.int .i64 sn.lo)).setCell (p := ⟨w.heap.size + 1, d * 3 + 1, none⟩) rfl (.int .i64 sn.hi)).setCell (p := ⟨w.heap.size + 1, d * 3 + 2, none⟩) rfl (.bool sn.has))
                            have hkq := ((((Kept.refl (fun k => k = (w.heap.size + 1)) y5).setCell (p := ⟨w.heap.size + 1, d * 3, none⟩) rfl (.int .i64 sn.lo)).setCell (p := ⟨w.heap.size + 1, d * 3 + 1, none⟩) rfl (.int .i64 sn.hi)).setCell (p := ⟨w.heap.size + 1, d * 3 + 2, none⟩) rfl (.bool sn.has))
                            go_roundg (B.list.length - (j + 1))
                            case measure => omega
                            case rel => exact ⟨j + 1, putSp t l3 d mk, false || chgS l3 d mk, by omega, rfl, by first | rfl | (rw [← HC.out, Bool.false_or]), by go_num, (HW.out.next hb5).put hrn hkq, HOk4.out, hkp, HFF2.out⟩
                    · obtain rfl : j = B.list.length := by omega
                      have hfo4 := HFo3.out
                      rw [show (B.list.map ItS.ins).foldl (itS t) (l2, ag2) = (l3, ag3) from by
                        have h := HF3.out
                        rw [List.drop_length] at h
                        exact h.symm] at hfo4
                      have HFo4 := hidI hfo4
                      clear hfo4 HFo3 HF3
                      go_wp2_with fail
                      go_roundg (f.blocks.length - (k + 1))
                      case measure => omega
                      case rel => exact ⟨k + 1, l3, ag3, by omega, rfl, rfl, by go_num, HW.out, HO3.out, HFo4.out⟩
            · obtain rfl : k = f.blocks.length := by omega
              have hst : rndS f t l = (l', ag') := by
                have h := HFo.out
                rw [List.drop_length] at h
                exact h.symm
              have HST := hidI hst
              clear hst HFo
              cases ag' with
              | false =>
                have HLa := hidI (HL.out.last HOk.out (by rw [HST.out]))
                have hl' : l' = spnF f := by
                  have h1 := ((rnd_step HOk.out t HL.out.ok).flag (by rw [HST.out])).2
                  have h2 := HST.out
                  rw [h2] at h1
                  exact h1.trans HLa.out
                have HL' := hidI hl'
                clear hl' HLa
                go_wp2_with fail
                go_roundg (0)
                case measure => omega
                case rel => exact ⟨t + 1, l', false, rfl, by go_num, HW.out, HOl'.out, (fun h => by cases h), fun _ => ⟨HL'.out, rfl⟩⟩
              | true =>
                have HN := hidI (HL.out.next HOk.out (by rw [HST.out]))
                have HN2 : Hid (LeftS f (t + 1) l' kr) := hidI (by have h := HN.out; rw [HST.out] at h; exact h)
                clear HN
                go_wp2_with fail
                go_roundg kr
                case measure => omega
                case rel => exact ⟨t + 1, l', true, rfl, by go_num, HW.out, HOl'.out, fun _ => ⟨HN2.out, by omega⟩, fun h => by cases h⟩
end Go.Proofs.YtdjamkinijhjoaaDoor
