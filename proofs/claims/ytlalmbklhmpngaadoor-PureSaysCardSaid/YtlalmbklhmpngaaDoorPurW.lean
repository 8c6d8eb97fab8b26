/-
  The contract of turneryref5.PureOwn.
-/
import Derived.Test.YtlalmbklhmpngaaDoorPurV
import Derived.Test.YtlalmbklhmpngaaDoorPurI
import Derived.Test.YtlalmbklhmpngaaDoorCalRo
import Derived.Deep.DeepCutAuto
import Derived.Deep.LoopGhost
import Derived.WalkKit
import Derived.WalkSpells
import Derived.WalkLawsBesides
namespace Go.Proofs.YtlalmbklhmpngaaDoor
open Go.RowKit

section
variable {P : Program} {md : Region.Mode} {ops : Array Oper} {Q : Exit → Act → World → Prop} {S : World → Prop} {z : Nat}
theorem takeZ (i d : Nat) (v : Value) {oi : Oper} {fuel : Nat} {listed : Array Bool} {a : Act} {w : World} (hi : ops[i]? = some oi) (hd : oi.dst = some d) (hw : waitsB md ops z i = true)
    (hs : Region.noSelect ops = true) (hf : Region.free md ops listed i = true) (hr : (Region.ready md ops listed).contains i = true)
    (hQ : ∀ c a w, Q (.panic c) (a.put (some d) v) w → Q (.panic c) a w) (hy : YieldsIf P ops S oi v a) (hS : S w)
    (h : wpAnyZ P md ops Q S z fuel (listed.setIfInBounds i true) (a.put (some d) v) w) : wpAnyZ P md ops Q S z (fuel + 1) listed a w :=
  wpAnyZ_take hi hw hs hf hr (by rw [hd]; exact hQ) hy hS (by rw [hd]; exact h)
/-- a call that is guarded, and wanted -/
theorem wpAnyZ_callG {i : Nat} {o : Oper} {fuel : Nat} {listed : Array Bool} {a : Act} {w : World} {f : FuncId} {args : Array Value} {R : Ending → World → Prop} (hr : Region.ready md ops listed = [i]) (ho : ops[i]? = some o) (hg : Region.wanted o (yielded ops a.tmps) = true)
    (h : (execOp a.eval o).run P w = .ok (.enter f args) w) (hc : Calls P f args w R) (hk : ∀ e w', R e w' → ∃ v, e = .returned v ∧ (i ≠ z → S w') ∧ wpAnyZ P md ops Q S z fuel (listed.setIfInBounds i true) (a.put o.dst v) w') : wpAnyZ P md ops Q S z (fuel + 1) listed a w :=
  wpAnyZ_all hr (by simp) fun j hj => by
    obtain rfl : j = i := by simpa using hj
    unfold wpOp
    rw [ho]
    simp only [hg, if_true]
    left
    unfold Oper.wp
    rw [h]
    refine hc.mono fun e w' he => ?_
    obtain ⟨v, rfl, h1, h2⟩ := hk e w' he
    exact ⟨h1, h2⟩
end
/-- so many of the bits are told of one more instruction -/
def stepV (words : Int) (l : List InsL) (x : InsL) (n y : Nat) : Bool := someB words l y || (decide (y < n) && insBit words x y)
theorem stepV_zero (words : Int) (l : List InsL) (x : InsL) (y : Nat) : stepV words l x 0 y = someB words l y := by simp [stepV]
theorem stepV_self (words : Int) (l : List InsL) (x : InsL) (n : Nat) : stepV words l x n n = someB words l n := by simp [stepV]
theorem stepV_succ (words : Int) (l : List InsL) (x : InsL) (n y : Nat) : stepV words l x (n + 1) y = if y = n then (someB words l n || insBit words x n) else stepV words l x n y := by
  unfold stepV
  split
  · next h => subst h; simp
  · next h =>
    have : decide (y < n + 1) = decide (y < n) := by rw [decide_eq_decide]; omega
    rw [this]
theorem stepV_six (words : Int) (l : List InsL) (x : InsL) {y : Nat} (h : y < 7) : stepV words l x 6 y = someB words (l ++ [x]) y := by
  rw [someB_snoc]
  unfold stepV
  by_cases e : y < 6
  · simp [e]
  · obtain rfl : y = 6 := by omega
    simp [insBit]
/-- some of the first x functions is of k's ring and called by k -/
def ringTo (u : UniL) (k x : Nat) : Bool := (List.range x).any fun x => callsB (fnU u k) (x : Int) && ringN u.funcs.length (tableU u.funcs) x == ringN u.funcs.length (tableU u.funcs) k
theorem ringTo_succ (u : UniL) (k x : Nat) : ringTo u k (x + 1) = (ringTo u k x || (callsB (fnU u k) (x : Int) && ringN u.funcs.length (tableU u.funcs) x == ringN u.funcs.length (tableU u.funcs) k)) := by
  unfold ringTo
  rw [List.range_succ, List.any_append]
  simp
theorem row_no_int {w : World} {b t n i : Nat} {f : Nat → Bool} {v : Int} (h : w.rowIs b t n (fun y => .bool (f y))) (hc : w.cell? ⟨b, i, none⟩ = some (.int .i64 v)) : False := by
  by_cases hi : i < n
  · rw [h.cell hi] at hc; cases hc
  · obtain ⟨c, h1, h2, _⟩ := h
    rw [(blk h1).1 i, Array.getElem?_eq_none (by omega)] at hc
    cases hc
/-- one cell is set -/
theorem rowStep {w : World} {R t : Nat} {words : Int} {l : List InsL} {x : InsL} {n : Nat} (h : w.rowIs R t 7 (fun y => .bool (stepV words l x n y))) {b : Bool} (e : b = (someB words l n || insBit words x n)) : (w.setCell ⟨R, n, none⟩ (.bool b)).rowIs R t 7 (fun y => .bool (stepV words l x (n + 1) y)) := by
  refine (h.set n (.bool b)).congr fun y _ => ?_
  rw [stepV_succ, e]
  split <;> rfl

set_option maxRecDepth 100000 in
set_option maxHeartbeats 1000000 in
theorem pureOwn_any (u : UniL) (gp fp : Option Addr) (gc fc k : Nat) (w : World) (hgl : u.globals.length * 48 ≤ 140737488351232) (hG : SliceAt w 3 (GloR w) gp u.globals) (hF : SliceAt w 4 (FunR w) fp u.funcs) (hu : ChkOk u) (hk : k < u.funcs.length) :
    Calls Tryd.prog 59 #[.agg #[.slice gp u.globals.length gc, .slice fp u.funcs.length fc], .int .i64 k] w fun e w' => ∃ r, e = .returned (.slice (some ⟨r, 0, none⟩) 7 7) ∧ Below w.heap.size w w' ∧ w.heap.size ≤ r ∧ w'.rowIs r 4 7 (fun y => .bool (ownB u k y)) := by
  obtain ⟨i1, k1, k2, k3, k4⟩ := info_parts infoBool
  have hmk := run_make_row 50 4 i1 (.bool false) underBools k1 k2 k3 rfl .i64 .i64 7 (by rw [k4]; omega) (by omega)
  have hmk : ∀ W : World, Sem.run Tryd.prog (Instr.makeSlice 50 (.int .i64 7) (.int .i64 7)) W = .ok (.slice (some ⟨W.heap.size, 0, none⟩) 7 7) (W.alloc (.cells (madeCells #[.bool false] 7) 4)) := hmk
  have HF := hidI hF
  have HG := hidI hG
  have HU := hidI hu
  have hw := hidI hu.words
  obtain ⟨b2, o2, q, c, hp, e0, e1, e2, e3, _, _, _, hbl, hbs⟩ := funGet hF (Below.refl _ _) hk
  subst hp
  have hbb := lt_of_cell e0
  have HBS := hidI hbs
  have E0 := hidI e0
  have E1 := hidI e1
  have E2 := hidI e2
  have E3 := hidI e3
  have k0 : (0 : Int) ≤ (k : Int) := by omega
  have k1 : (k : Int) < u.funcs.length := by omega
  have hnf := hu.nf
  clear hF hG hu hbs e0 e1 e2 e3
  go_enter Tryd.func59, Tryd.ntmps59
  go_wp2_with fail
  go_loopw [6] (fun i wr => ∃ b : Nat, b ≤ u.funcs[k].blocks.length ∧ i = .int .i64 b ∧ wr.rowIs (w.heap.size + 1) 4 7 (fun y => .bool (someB (wordsU u) ((u.funcs[k].blocks.take b).flatMap (·.list)) y)) ∧ Below (w.heap.size + 1) (w.alloc (.cells #[.slice gp u.globals.length gc, .slice (some ⟨b2, o2, none⟩) u.funcs.length fc] 35)) wr) (fun i _ => u.funcs[k].blocks.length - (intOf i).toNat)
  case atStart =>
    refine ⟨0, by omega, rfl, ?_, by repeat (first | with_reducible exact Below.refl _ _ | with_reducible exact HB3.out | with_reducible refine Below.drew ?_ | with_reducible refine below_drewN ?_ _ | with_reducible refine Below.setCell ?_ ?_ _ | with_reducible refine Below.alloc ?_ ?_ _ | with_reducible exact HB2.out | with_reducible exact HB1.out | with_reducible refine Below.trans ?_ (Below.mono hb3 ?_) | with_reducible refine Below.trans ?_ (Below.mono hb5 ?_) | with_reducible refine Below.trans ?_ (Below.mono hb4 ?_) | omega | (simp; omega) | simp)⟩
    have hM := World.rowIs_made (w.alloc (.cells #[.slice gp u.globals.length gc, .slice (some ⟨b2, o2, none⟩) u.funcs.length fc] 35)) (.bool false) 7 4
    have e : (w.alloc (.cells #[.slice gp u.globals.length gc, .slice (some ⟨b2, o2, none⟩) u.funcs.length fc] 35)).heap.size = w.heap.size + 1 := by simp
    rw [e] at hM
    exact hM.congr fun y _ => by simp [someB]
  case round =>
    obtain ⟨b, hb, rfl, hR, hbw⟩ := hrel
    have HR := hidI hR
    have HB := hidI hbw
    have HBw : Hid (Below w.heap.size w wr) := ((Below.refl _ _).alloc (Nat.le_refl _) _).trans (hbw.mono (by omega))
    have hzr := hR.lt
    have e3 := (HBw.out.cell (p := ⟨b2, o2 + k * 4 + 3, none⟩) hbb).trans E3.out
    obtain ⟨hcu, hfu⟩ := blk (heap_below hbw (by omega) (heap_here w _))
    clear hR hbw
    by_cases hlt : b < u.funcs[k].blocks.length
    · obtain ⟨b3, o3, pp, pc, lp, lc, tp, tc, hbp, _, b1, _, _, _, _, _, _, _, hll, _, _, hLi, _⟩ := blkGet HBS.out (Below.refl _ _) hlt
      subst hbp
      have hb3 := lt_of_cell b1
      have f1 := (HBw.out.cell (p := ⟨b3, o3 + b * 6 + 1, none⟩) hb3).trans b1
      have HLi := hidI hLi
      clear b1 hLi
      go_wp2_with fail
      go_loopw [8] (fun i wr => ∃ j : Nat, j ≤ u.funcs[k].blocks[b].list.length ∧ i = .int .i64 j ∧ wr.rowIs (w.heap.size + 1) 4 7 (fun y => .bool (someB (wordsU u) ((u.funcs[k].blocks.take b).flatMap (·.list) ++ u.funcs[k].blocks[b].list.take j) y)) ∧ Below (w.heap.size + 1) (w.alloc (.cells #[.slice gp u.globals.length gc, .slice (some ⟨b2, o2, none⟩) u.funcs.length fc] 35)) wr) (fun i _ => u.funcs[k].blocks[b].list.length - (intOf i).toNat)
      case atStart => exact ⟨0, by omega, rfl, by simpa using HR.out, HB.out⟩
      case round =>
        clear HR HB HBw hzr e3 hcu hfu f1
        obtain ⟨j, hj, rfl, hR, hbw⟩ := hrel
        have HB := hidI hbw
        have HBw : Hid (Below w.heap.size w wr) := ((Below.refl _ _).alloc (Nat.le_refl _) _).trans (hbw.mono (by omega))
        have hzr := hR.lt
        by_cases hlj : j < u.funcs[k].blocks[b].list.length
        · obtain ⟨b4, o4, q4, c4, hp4, x0, x1, x2, x3, x4, x5, x6, x7, _, _, _, _, _, _, _⟩ := insGet HLi.out (Below.refl _ _) hlj
          subst hp4
          have hb4 := lt_of_cell x0
          have X0 := hidI x0
          clear x0
          obtain ⟨L, hL⟩ : ∃ L, L = (u.funcs[k].blocks.take b).flatMap (·.list) ++ u.funcs[k].blocks[b].list.take j := ⟨_, rfl⟩
          obtain ⟨x, hx⟩ : ∃ x, x = u.funcs[k].blocks[b].list[j] := ⟨_, rfl⟩
          rw [← hL] at hR
          rw [← hx] at X0 x1 x2 x3 x4 x5 x6 x7
          have HL := hidI hL
          have HX := hidI hx
          clear hL hx
          have hR0 : wr.rowIs (w.heap.size + 1) 4 7 (fun y => .bool (stepV (wordsU u) L x 0 y)) := hR.congr fun y _ => by rw [stepV_zero]
          have HR := hidI hR0
          clear hR hR0 hbw
          go_upto_region 9 with fail
          go_cut [] (fun wx => wx.rowIs (w.heap.size + 1) 4 7 (fun y => .bool (stepV (wordsU u) L x 1 y)) ∧ Below (w.heap.size + 1) (w.alloc (.cells #[.slice gp u.globals.length gc, .slice (some ⟨b2, o2, none⟩) u.funcs.length fc] 35)) wx)
          case first =>
            have x0 := (HBw.out.cell (p := ⟨b4, o4 + j * 8, none⟩) hb4).trans X0.out
            have hc := HR.out.cell (show 0 < 7 by omega)
            have hf := HR.out.frozen 0
            rw [stepV_self] at hc
            cases hv : someB (wordsU u) L 0 with
            | true =>
              rw [hv] at hc
              have HV := hidI hv
              clear hv
              go_wp2_with fail
              go_meet
              exact ⟨rowStep HR.out (by rw [HV.out]; rfl), HB.out.setCell (by simp) _⟩
            | false =>
              rw [hv] at hc
              have HV := hidI hv
              clear hv
              go_wp2_with fail
              go_meet
              exact ⟨rowStep HR.out (by rw [HV.out]; rfl), HB.out.setCell (by simp) _⟩
          case rest =>
            clear HR HB HBw hzr
            obtain ⟨hR, hbw⟩ := hcut
            have HB := hidI hbw
            have HBw : Hid (Below w.heap.size w wc) := ((Below.refl _ _).alloc (Nat.le_refl _) _).trans (hbw.mono (by omega))
            have hzr := hR.lt
            have HR := hidI hR
            clear hR hbw
            go_upto_region 10 with fail
            go_cut [] (fun wx => wx.rowIs (w.heap.size + 1) 4 7 (fun y => .bool (stepV (wordsU u) L x 2 y)) ∧ Below (w.heap.size + 1) (w.alloc (.cells #[.slice gp u.globals.length gc, .slice (some ⟨b2, o2, none⟩) u.funcs.length fc] 35)) wx)
            case first =>
              have x0 := (HBw.out.cell (p := ⟨b4, o4 + j * 8, none⟩) hb4).trans X0.out
              have hc := HR.out.cell (show 1 < 7 by omega)
              have hf := HR.out.frozen 1
              rw [stepV_self] at hc
              cases hv : someB (wordsU u) L 1 with
              | true =>
                rw [hv] at hc
                have HV := hidI hv
                clear hv
                go_wp2_with fail
                go_meet
                exact ⟨rowStep HR.out (by rw [HV.out]; rfl), HB.out.setCell (by simp) _⟩
              | false =>
                rw [hv] at hc
                have HV := hidI hv
                clear hv
                go_wp2_with fail
                go_meet
                exact ⟨rowStep HR.out (by rw [HV.out]; rfl), HB.out.setCell (by simp) _⟩
            case rest =>
              clear HR HB HBw hzr
              obtain ⟨hR, hbw⟩ := hcut
              have HB := hidI hbw
              have HBw : Hid (Below w.heap.size w wc) := ((Below.refl _ _).alloc (Nat.le_refl _) _).trans (hbw.mono (by omega))
              have hzr := hR.lt
              have HR := hidI hR
              clear hR hbw
              go_upto_region 11 with fail
              go_cut [] (fun wx => wx.rowIs (w.heap.size + 1) 4 7 (fun y => .bool (stepV (wordsU u) L x 3 y)) ∧ Below (w.heap.size + 1) (w.alloc (.cells #[.slice gp u.globals.length gc, .slice (some ⟨b2, o2, none⟩) u.funcs.length fc] 35)) wx)
              case first =>
                have x0 := (HBw.out.cell (p := ⟨b4, o4 + j * 8, none⟩) hb4).trans X0.out
                have hc := HR.out.cell (show 2 < 7 by omega)
                have hf := HR.out.frozen 2
                rw [stepV_self] at hc
                cases hv : someB (wordsU u) L 2 with
                | true =>
                  rw [hv] at hc
                  have HV := hidI hv
                  clear hv
                  go_wp2_with fail
                  go_meet
                  exact ⟨rowStep HR.out (by rw [HV.out]; rfl), HB.out.setCell (by simp) _⟩
                | false =>
                  rw [hv] at hc
                  have HV := hidI hv
                  clear hv
                  go_wp2_with fail
                  go_meet
                  exact ⟨rowStep HR.out (by rw [HV.out]; rfl), HB.out.setCell (by simp) _⟩
              case rest =>
                clear HR HB HBw hzr
                obtain ⟨hR, hbw⟩ := hcut
                have HB := hidI hbw
                have HBw : Hid (Below w.heap.size w wc) := ((Below.refl _ _).alloc (Nat.le_refl _) _).trans (hbw.mono (by omega))
                have hzr := hR.lt
                have HR := hidI hR
                clear hR hbw
                go_upto_region 12 with fail
                go_cut [] (fun wx => wx.rowIs (w.heap.size + 1) 4 7 (fun y => .bool (stepV (wordsU u) L x 4 y)) ∧ Below (w.heap.size + 1) (w.alloc (.cells #[.slice gp u.globals.length gc, .slice (some ⟨b2, o2, none⟩) u.funcs.length fc] 35)) wx)
                case first =>
                  have x0 := (HBw.out.cell (p := ⟨b4, o4 + j * 8, none⟩) hb4).trans X0.out
                  have hc := HR.out.cell (show 3 < 7 by omega)
                  have hf := HR.out.frozen 3
                  rw [stepV_self] at hc
                  cases hv : someB (wordsU u) L 3 with
                  | true =>
                    rw [hv] at hc
                    have HV := hidI hv
                    clear hv
                    go_wp2_with fail
                    go_meet
                    exact ⟨rowStep HR.out (by rw [HV.out]; rfl), HB.out.setCell (by simp) _⟩
                  | false =>
                    rw [hv] at hc
                    have HV := hidI hv
                    clear hv
                    go_wp2_with fail
                    go_meet
                    exact ⟨rowStep HR.out (by rw [HV.out]; rfl), HB.out.setCell (by simp) _⟩
                case rest =>
                  clear HR HB HBw hzr
                  obtain ⟨hR, hbw⟩ := hcut
                  have HB := hidI hbw
                  have HBw : Hid (Below w.heap.size w wc) := ((Below.refl _ _).alloc (Nat.le_refl _) _).trans (hbw.mono (by omega))
                  have hzr := hR.lt
                  have HR := hidI hR
                  clear hR hbw
                  go_upto_region 13 with fail
                  go_cut [] (fun wx => wx.rowIs (w.heap.size + 1) 4 7 (fun y => .bool (stepV (wordsU u) L x 5 y)) ∧ Below (w.heap.size + 1) (w.alloc (.cells #[.slice gp u.globals.length gc, .slice (some ⟨b2, o2, none⟩) u.funcs.length fc] 35)) wx)
                  case first =>
                    have x0 := (HBw.out.cell (p := ⟨b4, o4 + j * 8, none⟩) hb4).trans X0.out
                    have hc := HR.out.cell (show 4 < 7 by omega)
                    have hf := HR.out.frozen 4
                    rw [stepV_self] at hc
                    cases hv : someB (wordsU u) L 4 with
                    | true =>
                      rw [hv] at hc
                      have HV := hidI hv
                      clear hv
                      go_wp2_with fail
                      refine wp_region_calm (S := fun W => W.cell? ⟨w.heap.size + 1, 4, none⟩ = some (.bool true)) (by kernel_rfl) 13 ?_
                      have hS : (fun W : World => W.cell? ⟨w.heap.size + 1, 4, none⟩ = some (.bool true)) wc.drew := hc
                      refine takeZ 0 91 ?_ rfl rfl (by kernel_rfl) (by kernel_rfl) (by kernel_rfl) (by kernel_rfl) (fun _ _ _ h => h) (Or.inl ⟨by rfl, ?_⟩) hS ?_
                      rotate_left
                      · intro w hSw; (try dsimp only at hSw); go_simp; try with_reducible rfl
                      simp only [Act.put, List.setIfInBounds_toArray, List.set_cons_zero, List.set_cons_succ]
                      refine takeZ 1 92 ?_ rfl rfl (by kernel_rfl) (by kernel_rfl) (by kernel_rfl) (by kernel_rfl) (fun _ _ _ h => h) (Or.inl ⟨by rfl, ?_⟩) hS ?_
                      rotate_left
                      · intro w hSw; (try dsimp only at hSw); go_simp; try with_reducible rfl
                      simp only [Act.put, List.setIfInBounds_toArray, List.set_cons_zero, List.set_cons_succ]
                      refine takeZ 2 93 ?_ rfl rfl (by kernel_rfl) (by kernel_rfl) (by kernel_rfl) (by kernel_rfl) (fun _ _ _ h => h) (Or.inl ⟨by rfl, ?_⟩) hS ?_
                      rotate_left
                      · intro w hSw; (try dsimp only at hSw); go_simp; try with_reducible rfl
                      simp only [Act.put, List.setIfInBounds_toArray, List.set_cons_zero, List.set_cons_succ]
                      refine takeZ 3 94 ?_ rfl rfl (by kernel_rfl) (by kernel_rfl) (by kernel_rfl) (by kernel_rfl) (fun _ _ _ h => h) (Or.inl ⟨by rfl, ?_⟩) hS ?_
                      rotate_left
                      · intro w hSw; (try dsimp only at hSw); go_simp; try with_reducible rfl
                      simp only [Act.put, List.setIfInBounds_toArray, List.set_cons_zero, List.set_cons_succ]
                      refine takeZ 4 95 ?_ rfl rfl (by kernel_rfl) (by kernel_rfl) (by kernel_rfl) (by kernel_rfl) (fun _ _ _ h => h) (Or.inl ⟨by rfl, ?_⟩) hS ?_
                      rotate_left
                      · intro w hSw; (try dsimp only at hSw); go_simp; try with_reducible rfl
                      simp only [Act.put, List.setIfInBounds_toArray, List.set_cons_zero, List.set_cons_succ]
                      refine takeZ 5 96 undef rfl rfl (by kernel_rfl) (by kernel_rfl) (by kernel_rfl) (by kernel_rfl) (fun _ _ _ h => h) (Or.inr ⟨by rfl, rfl⟩) hS ?_
                      simp only [Act.put, List.setIfInBounds_toArray, List.set_cons_zero, List.set_cons_succ]
                      refine takeZ 6 97 undef rfl rfl (by kernel_rfl) (by kernel_rfl) (by kernel_rfl) (by kernel_rfl) (fun _ _ _ h => h) (Or.inr ⟨by rfl, rfl⟩) hS ?_
                      simp only [Act.put, List.setIfInBounds_toArray, List.set_cons_zero, List.set_cons_succ]
                      refine takeZ 7 98 undef rfl rfl (by kernel_rfl) (by kernel_rfl) (by kernel_rfl) (by kernel_rfl) (fun _ _ _ h => h) (Or.inr ⟨by rfl, rfl⟩) hS ?_
                      simp only [Act.put, List.setIfInBounds_toArray, List.set_cons_zero, List.set_cons_succ]
                      refine takeZ 8 99 undef rfl rfl (by kernel_rfl) (by kernel_rfl) (by kernel_rfl) (by kernel_rfl) (fun _ _ _ h => h) (Or.inr ⟨by rfl, rfl⟩) hS ?_
                      simp only [Act.put, List.setIfInBounds_toArray, List.set_cons_zero, List.set_cons_succ]
                      refine takeZ 9 100 undef rfl rfl (by kernel_rfl) (by kernel_rfl) (by kernel_rfl) (by kernel_rfl) (fun _ _ _ h => h) (Or.inr ⟨by rfl, rfl⟩) hS ?_
                      simp only [Act.put, List.setIfInBounds_toArray, List.set_cons_zero, List.set_cons_succ]
                      refine takeZ 10 101 undef rfl rfl (by kernel_rfl) (by kernel_rfl) (by kernel_rfl) (by kernel_rfl) (fun _ _ _ h => h) (Or.inr ⟨by rfl, rfl⟩) hS ?_
                      simp only [Act.put, List.setIfInBounds_toArray, List.set_cons_zero, List.set_cons_succ]
                      refine takeZ 11 102 ?_ rfl rfl (by kernel_rfl) (by kernel_rfl) (by kernel_rfl) (by kernel_rfl) (fun _ _ _ h => h) (Or.inl ⟨by rfl, ?_⟩) hS ?_
                      rotate_left
                      · intro w hSw; (try dsimp only at hSw); go_simp; try with_reducible rfl
                      simp only [Act.put, List.setIfInBounds_toArray, List.set_cons_zero, List.set_cons_succ]
                      refine takeZ 12 103 ?_ rfl rfl (by kernel_rfl) (by kernel_rfl) (by kernel_rfl) (by kernel_rfl) (fun _ _ _ h => h) (Or.inl ⟨by rfl, ?_⟩) hS ?_
                      rotate_left
                      · intro w hSw; (try dsimp only at hSw); go_simp; try with_reducible rfl
                      simp only [Act.put, List.setIfInBounds_toArray, List.set_cons_zero, List.set_cons_succ]
                      refine wpAnyZ_skip (i := 13) (wc.drew.setCell ⟨w.heap.size + 1, 4, none⟩ (.bool true)) (by kernel_rfl) rfl rfl (by go_simp) (fun h => absurd rfl h) (wpAnyZ_done (by kernel_rfl) ?_ _)
                      simp only [calm]
                      generalize hW9 : wc.drew.setCell ⟨w.heap.size + 1, 4, none⟩ (.bool true) = w9
                      go_wp2_with fail
                      go_meet
                      rw [← hW9]
                      exact ⟨rowStep HR.out.drew (by rw [HV.out]; rfl), HB.out.drew.setCell (by simp) _⟩
                    | false =>
                      rw [hv] at hc
                      have HV := hidI hv
                      have hz9 : w.heap.size < wc.heap.size := by omega
                      obtain ⟨hcu, _⟩ := blk (heap_below HB.out (by omega) (heap_here w _))
                      have hAll : ∀ W : World, Below wc.heap.size wc W → (W.cell? ⟨w.heap.size + 1, 4, none⟩ = some (.bool false)) ∧ W.cell? ⟨w.heap.size, 0, none⟩ = some (.slice gp u.globals.length gc) ∧ W.cell? ⟨w.heap.size, 1, none⟩ = some (.slice (some ⟨b2, o2, none⟩) u.funcs.length fc) ∧ W.cell? ⟨b4, o4 + j * 8, none⟩ = some (.int .i64 x.op) ∧ W.cell? ⟨b4, o4 + j * 8 + 1, none⟩ = some (.int .i64 x.dst) ∧ W.cell? ⟨b4, o4 + j * 8 + 2, none⟩ = some (.bool x.ar) ∧ W.cell? ⟨b4, o4 + j * 8 + 3, none⟩ = some (.int .i64 x.an) ∧ W.cell? ⟨b4, o4 + j * 8 + 4, none⟩ = some (.bool x.br) ∧ W.cell? ⟨b4, o4 + j * 8 + 5, none⟩ = some (.int .i64 x.bn) ∧ W.cell? ⟨b4, o4 + j * 8 + 6, none⟩ = some (.int .i64 x.fn) ∧ W.cell? ⟨b4, o4 + j * 8 + 7, none⟩ = some (.slice q4 x.args.length c4) := fun W h => ⟨(h.cell (p := ⟨w.heap.size + 1, 4, none⟩) hzr).trans hc, (h.cell (p := ⟨w.heap.size, 0, none⟩) hz9).trans (hcu 0), (h.cell (p := ⟨w.heap.size, 1, none⟩) hz9).trans (hcu 1), ((HBw.out.trans (h.mono HBw.out.size)).cell (p := ⟨b4, _, none⟩) hb4).trans X0.out, ((HBw.out.trans (h.mono HBw.out.size)).cell (p := ⟨b4, _, none⟩) hb4).trans x1, ((HBw.out.trans (h.mono HBw.out.size)).cell (p := ⟨b4, _, none⟩) hb4).trans x2, ((HBw.out.trans (h.mono HBw.out.size)).cell (p := ⟨b4, _, none⟩) hb4).trans x3, ((HBw.out.trans (h.mono HBw.out.size)).cell (p := ⟨b4, _, none⟩) hb4).trans x4, ((HBw.out.trans (h.mono HBw.out.size)).cell (p := ⟨b4, _, none⟩) hb4).trans x5, ((HBw.out.trans (h.mono HBw.out.size)).cell (p := ⟨b4, _, none⟩) hb4).trans x6, ((HBw.out.trans (h.mono HBw.out.size)).cell (p := ⟨b4, _, none⟩) hb4).trans x7⟩
                      have HAll := hidI hAll
                      have HPE := hidI (fun W (hW : Below wc.heap.size wc W) => pureEnds_any u x.op x.dst x.an x.bn x.fn x.ar x.br q4 x.args.length c4 gp (some ⟨b2, o2, none⟩) u.funcs.length gc fc W hgl (glosMono HG.out (HBw.out.trans (hW.mono HBw.out.size))) hw.out)
                      clear hv hAll hcu x0 x1 x2 x3 x4 x5 x6 x7
                      go_wp2_with fail
                      refine wp_region_calm (S := fun W => (W.cell? ⟨w.heap.size + 1, 4, none⟩ = some (.bool false)) ∧ W.cell? ⟨w.heap.size, 0, none⟩ = some (.slice gp u.globals.length gc) ∧ W.cell? ⟨w.heap.size, 1, none⟩ = some (.slice (some ⟨b2, o2, none⟩) u.funcs.length fc) ∧ W.cell? ⟨b4, o4 + j * 8, none⟩ = some (.int .i64 x.op) ∧ W.cell? ⟨b4, o4 + j * 8 + 1, none⟩ = some (.int .i64 x.dst) ∧ W.cell? ⟨b4, o4 + j * 8 + 2, none⟩ = some (.bool x.ar) ∧ W.cell? ⟨b4, o4 + j * 8 + 3, none⟩ = some (.int .i64 x.an) ∧ W.cell? ⟨b4, o4 + j * 8 + 4, none⟩ = some (.bool x.br) ∧ W.cell? ⟨b4, o4 + j * 8 + 5, none⟩ = some (.int .i64 x.bn) ∧ W.cell? ⟨b4, o4 + j * 8 + 6, none⟩ = some (.int .i64 x.fn) ∧ W.cell? ⟨b4, o4 + j * 8 + 7, none⟩ = some (.slice q4 x.args.length c4)) (by kernel_rfl) 13 ?_
                      have hS : (fun W : World => (W.cell? ⟨w.heap.size + 1, 4, none⟩ = some (.bool false)) ∧ W.cell? ⟨w.heap.size, 0, none⟩ = some (.slice gp u.globals.length gc) ∧ W.cell? ⟨w.heap.size, 1, none⟩ = some (.slice (some ⟨b2, o2, none⟩) u.funcs.length fc) ∧ W.cell? ⟨b4, o4 + j * 8, none⟩ = some (.int .i64 x.op) ∧ W.cell? ⟨b4, o4 + j * 8 + 1, none⟩ = some (.int .i64 x.dst) ∧ W.cell? ⟨b4, o4 + j * 8 + 2, none⟩ = some (.bool x.ar) ∧ W.cell? ⟨b4, o4 + j * 8 + 3, none⟩ = some (.int .i64 x.an) ∧ W.cell? ⟨b4, o4 + j * 8 + 4, none⟩ = some (.bool x.br) ∧ W.cell? ⟨b4, o4 + j * 8 + 5, none⟩ = some (.int .i64 x.bn) ∧ W.cell? ⟨b4, o4 + j * 8 + 6, none⟩ = some (.int .i64 x.fn) ∧ W.cell? ⟨b4, o4 + j * 8 + 7, none⟩ = some (.slice q4 x.args.length c4)) wc.drew := HAll.out _ (by repeat (first | with_reducible exact Below.refl _ _ | with_reducible exact HB3.out | with_reducible refine Below.drew ?_ | with_reducible refine below_drewN ?_ _ | with_reducible refine Below.setCell ?_ ?_ _ | with_reducible refine Below.alloc ?_ ?_ _ | with_reducible exact HB2.out | with_reducible exact HB1.out | with_reducible refine Below.trans ?_ (Below.mono hb3 ?_) | with_reducible refine Below.trans ?_ (Below.mono hb5 ?_) | with_reducible refine Below.trans ?_ (Below.mono hb4 ?_) | omega | (simp; omega) | simp))
                      refine takeZ 0 91 ?_ rfl rfl (by kernel_rfl) (by kernel_rfl) (by kernel_rfl) (by kernel_rfl) (fun _ _ _ h => h) (Or.inl ⟨by rfl, ?_⟩) hS ?_
                      rotate_left
                      · intro w hSw; (try dsimp only at hSw); go_simp; try with_reducible rfl
                      simp only [Act.put, List.setIfInBounds_toArray, List.set_cons_zero, List.set_cons_succ]
                      refine takeZ 1 92 ?_ rfl rfl (by kernel_rfl) (by kernel_rfl) (by kernel_rfl) (by kernel_rfl) (fun _ _ _ h => h) (Or.inl ⟨by rfl, ?_⟩) hS ?_
                      rotate_left
                      · intro w hSw; (try dsimp only at hSw); go_simp; try with_reducible rfl
                      simp only [Act.put, List.setIfInBounds_toArray, List.set_cons_zero, List.set_cons_succ]
                      refine takeZ 2 93 ?_ rfl rfl (by kernel_rfl) (by kernel_rfl) (by kernel_rfl) (by kernel_rfl) (fun _ _ _ h => h) (Or.inl ⟨by rfl, ?_⟩) hS ?_
                      rotate_left
                      · intro w hSw; (try dsimp only at hSw); go_simp; try with_reducible rfl
                      simp only [Act.put, List.setIfInBounds_toArray, List.set_cons_zero, List.set_cons_succ]
                      refine takeZ 3 94 ?_ rfl rfl (by kernel_rfl) (by kernel_rfl) (by kernel_rfl) (by kernel_rfl) (fun _ _ _ h => h) (Or.inl ⟨by rfl, ?_⟩) hS ?_
                      rotate_left
                      · intro w hSw; (try dsimp only at hSw); go_simp; try with_reducible rfl
                      simp only [Act.put, List.setIfInBounds_toArray, List.set_cons_zero, List.set_cons_succ]
                      refine takeZ 4 95 ?_ rfl rfl (by kernel_rfl) (by kernel_rfl) (by kernel_rfl) (by kernel_rfl) (fun _ _ _ h => h) (Or.inl ⟨by rfl, ?_⟩) hS ?_
                      rotate_left
                      · intro w hSw; (try dsimp only at hSw); go_simp; try with_reducible rfl
                      simp only [Act.put, List.setIfInBounds_toArray, List.set_cons_zero, List.set_cons_succ]
                      refine takeZ 5 96 ?_ rfl rfl (by kernel_rfl) (by kernel_rfl) (by kernel_rfl) (by kernel_rfl) (fun _ _ _ h => h) (Or.inl ⟨by rfl, ?_⟩) hS ?_
                      rotate_left
                      · intro w hSw; (try dsimp only at hSw); go_simp; try with_reducible rfl
                      simp only [Act.put, List.setIfInBounds_toArray, List.set_cons_zero, List.set_cons_succ]
                      refine takeZ 6 97 ?_ rfl rfl (by kernel_rfl) (by kernel_rfl) (by kernel_rfl) (by kernel_rfl) (fun _ _ _ h => h) (Or.inl ⟨by rfl, ?_⟩) hS ?_
                      rotate_left
                      · intro w hSw; (try dsimp only at hSw); go_simp; try with_reducible rfl
                      simp only [Act.put, List.setIfInBounds_toArray, List.set_cons_zero, List.set_cons_succ]
                      refine takeZ 7 98 ?_ rfl rfl (by kernel_rfl) (by kernel_rfl) (by kernel_rfl) (by kernel_rfl) (fun _ _ _ h => h) (Or.inl ⟨by rfl, ?_⟩) hS ?_
                      rotate_left
                      · intro w hSw; (try dsimp only at hSw); go_simp; try with_reducible rfl
                      simp only [Act.put, List.setIfInBounds_toArray, List.set_cons_zero, List.set_cons_succ]
                      refine takeZ 8 99 ?_ rfl rfl (by kernel_rfl) (by kernel_rfl) (by kernel_rfl) (by kernel_rfl) (fun _ _ _ h => h) (Or.inl ⟨by rfl, ?_⟩) hS ?_
                      rotate_left
                      · intro w hSw; (try dsimp only at hSw); go_simp; try with_reducible rfl
                      simp only [Act.put, List.setIfInBounds_toArray, List.set_cons_zero, List.set_cons_succ]
                      refine takeZ 9 100 ?_ rfl rfl (by kernel_rfl) (by kernel_rfl) (by kernel_rfl) (by kernel_rfl) (fun _ _ _ h => h) (Or.inl ⟨by rfl, ?_⟩) hS ?_
                      rotate_left
                      · intro w hSw; (try dsimp only at hSw); go_simp; try with_reducible rfl
                      simp only [Act.put, List.setIfInBounds_toArray, List.set_cons_zero, List.set_cons_succ]
                      refine wpAnyZ_callG (i := 10) (by kernel_rfl) rfl (by rfl) (by go_simp) (HPE.out _ (by repeat (first | with_reducible exact Below.refl _ _ | with_reducible exact HB3.out | with_reducible refine Below.drew ?_ | with_reducible refine below_drewN ?_ _ | with_reducible refine Below.setCell ?_ ?_ _ | with_reducible refine Below.alloc ?_ ?_ _ | with_reducible exact HB2.out | with_reducible exact HB1.out | with_reducible refine Below.trans ?_ (Below.mono hb3 ?_) | with_reducible refine Below.trans ?_ (Below.mono hb5 ?_) | with_reducible refine Below.trans ?_ (Below.mono hb4 ?_) | omega | (simp; omega) | simp))) ?_
                      rintro e w5 ⟨rfl, hb5⟩
                      have hN5 : Below wc.heap.size wc w5 := Below.trans (by repeat (first | with_reducible exact Below.refl _ _ | with_reducible exact HB3.out | with_reducible refine Below.drew ?_ | with_reducible refine below_drewN ?_ _ | with_reducible refine Below.setCell ?_ ?_ _ | with_reducible refine Below.alloc ?_ ?_ _ | with_reducible exact HB2.out | with_reducible exact HB1.out | with_reducible refine Below.trans ?_ (Below.mono hb3 ?_) | with_reducible refine Below.trans ?_ (Below.mono hb5 ?_) | with_reducible refine Below.trans ?_ (Below.mono hb4 ?_) | omega | (simp; omega) | simp)) (hb5.mono (by first | omega | (simp; done) | (simp; omega)))
                      have hS := HAll.out _ hN5
                      refine ⟨_, rfl, fun _ => hS, ?_⟩
                      simp only [Act.put, List.setIfInBounds_toArray]
                      have hf5 := (hN5.frozen (p := ⟨w.heap.size + 1, 4, none⟩) hzr).trans hf
                      refine takeZ 11 102 ?_ rfl rfl (by kernel_rfl) (by kernel_rfl) (by kernel_rfl) (by kernel_rfl) (fun _ _ _ h => h) (Or.inl ⟨by rfl, ?_⟩) hS ?_
                      rotate_left
                      · intro w hSw; (try dsimp only at hSw); go_simp; try with_reducible rfl
                      simp only [Act.put]
                      refine takeZ 12 103 ?_ rfl rfl (by kernel_rfl) (by kernel_rfl) (by kernel_rfl) (by kernel_rfl) (fun _ _ _ h => h) (Or.inl ⟨by rfl, ?_⟩) hS ?_
                      rotate_left
                      · intro w hSw; (try dsimp only at hSw); go_simp; try with_reducible rfl
                      simp only [Act.put]
                      refine wpAnyZ_skip (i := 13) (w5.setCell ⟨w.heap.size + 1, 4, none⟩ (.bool (mayB x.op x.an x.bn x.ar x.br (wordsU u)))) (by kernel_rfl) rfl rfl (by go_simp) (fun h => absurd rfl h) (wpAnyZ_done (by kernel_rfl) ?_ _)
                      simp only [calm]
                      generalize hW9 : w5.setCell ⟨w.heap.size + 1, 4, none⟩ (.bool (mayB x.op x.an x.bn x.ar x.br (wordsU u))) = w9
                      go_wp2_with fail
                      go_meet
                      rw [← hW9]
                      exact ⟨rowStep (rowIs_below HR.out hN5) (by rw [HV.out]; rfl), (HB.out.trans (hN5.mono (show w.heap.size + 1 ≤ wc.heap.size by omega))).setCell (by simp) _⟩
                  case rest =>
                    clear HR HB HBw hzr
                    obtain ⟨hR, hbw⟩ := hcut
                    have HB := hidI hbw
                    have HBw : Hid (Below w.heap.size w wc) := ((Below.refl _ _).alloc (Nat.le_refl _) _).trans (hbw.mono (by omega))
                    have hzr := hR.lt
                    have HR := hidI hR
                    clear hR hbw
                    have x0 := (HBw.out.cell (p := ⟨b4, o4 + j * 8, none⟩) hb4).trans X0.out
                    have hc := HR.out.cell (show 5 < 7 by omega)
                    have hf := HR.out.frozen 5
                    rw [stepV_self] at hc
                    have fin : ∀ W : World, W.rowIs (w.heap.size + 1) 4 7 (fun y => .bool (stepV (wordsU u) L x 6 y)) → W.rowIs (w.heap.size + 1) 4 7 (fun y => .bool (someB (wordsU u) ((u.funcs[k].blocks.take b).flatMap (·.list) ++ u.funcs[k].blocks[b].list.take (j + 1)) y)) := fun W h => h.congr fun y hy => by
                      rw [stepV_six _ _ _ hy, HL.out, HX.out, List.take_succ_eq_append_getElem hlj, List.append_assoc]
                    have Fin := hidI fin
                    clear fin
                    cases hv : someB (wordsU u) L 5 with
                    | true =>
                      rw [hv] at hc
                      have HV := hidI hv
                      clear hv
                      go_wp2_with fail
                      exact ⟨⟨j + 1, by omega, by go_num, Fin.out _ (rowStep HR.out (by rw [HV.out]; rfl)), HB.out.setCell (by simp) _⟩, by simp [intOf]; omega⟩
                    | false =>
                      rw [hv] at hc
                      have HV := hidI hv
                      clear hv
                      go_wp2_with fail
                      exact ⟨⟨j + 1, by omega, by go_num, Fin.out _ (rowStep HR.out (by rw [HV.out]; rfl)), HB.out.setCell (by simp) _⟩, by simp [intOf]; omega⟩
        · obtain rfl : j = u.funcs[k].blocks[b].list.length := by omega
          have HR := hidI hR
          have e3 := (HBw.out.cell (p := ⟨b2, o2 + k * 4 + 3, none⟩) hbb).trans E3.out
          obtain ⟨hcu, hfu⟩ := blk (heap_below hbw (by omega) (heap_here w _))
          clear hR hbw
          go_wp2_with fail
          refine ⟨⟨b + 1, by omega, by go_num, HR.out.congr fun y _ => ?_, HB.out⟩, by simp [intOf]; omega⟩
          rw [List.take_succ_eq_append_getElem hlt, List.flatMap_append, List.take_length]
          simp
    · obtain rfl : b = u.funcs[k].blocks.length := by omega
      have e0 := (HBw.out.cell (p := ⟨b2, o2 + k * 4, none⟩) hbb).trans E0.out
      have e1 := (HBw.out.cell (p := ⟨b2, o2 + k * 4 + 1, none⟩) hbb).trans E1.out
      have e2 := (HBw.out.cell (p := ⟨b2, o2 + k * 4 + 2, none⟩) hbb).trans E2.out
      have HR1 : Hid (wr.rowIs (w.heap.size + 1) 4 7 (fun y => .bool (someB (wordsU u) (allIns u.funcs[k]) y))) := HR.out.congr fun y _ => by rw [List.take_length]; rfl
      have hc := HR1.out.cell (show 6 < 7 by omega)
      have hf := HR1.out.frozen 6
      have HTo : Hid (∀ j (h : j < u.funcs[k].blocks.length), ∀ t ∈ u.funcs[k].blocks[j].fin.to, 0 ≤ t ∧ t < (u.funcs[k].blocks.length : Int)) := hidI fun j hj t ht => by
        have := endE_zero (bodyE_end (HU.out.bodyZ hk) hj)
        have := this.2 t ht
        omega
      clear HR
      go_wp2_with fail
      refine (pureRound_any u.funcs[k] q c _ (by have := (HU.out.fn hk).2.2; omega) (blksMono HBS.out HBw.out) HTo.out).mono ?_
      rintro e w2 ⟨rfl, hb2⟩
      have hc2 := (hb2.cell (p := ⟨w.heap.size + 1, 6, none⟩) hzr).trans hc
      have hf2 := (hb2.frozen (p := ⟨w.heap.size + 1, 6, none⟩) hzr).trans hf
      have hU2 := (hb2.block w.heap.size (by omega)).trans (heap_below HB.out (by omega) (heap_here w _))
      obtain ⟨hcu2, _⟩ := blk hU2
      have hz2 := (Array.getElem?_eq_some_iff.1 hU2).1
      obtain ⟨W3, hW3⟩ : ∃ W3, W3 = w2.setCell ⟨w.heap.size + 1, 6, none⟩ (.bool (roundB u.funcs[k])) := ⟨_, rfl⟩
      have HB2 := hidI hb2
      have HR3 : Hid (W3.rowIs (w.heap.size + 1) 4 7 (fun y => .bool (if y = 6 then roundB u.funcs[k] else someB (wordsU u) (allIns u.funcs[k]) y))) := by
        refine hidI ?_
        rw [hW3]
        refine ((rowIs_below HR1.out hb2).set 6 _).congr fun y _ => ?_
        split <;> rfl
      have HB3 : Hid (Below w.heap.size w W3) := by
        refine hidI ?_
        rw [hW3]
        exact (HBw.out.trans (hb2.mono HBw.out.size)).setCell (by simp) _
      have HU2 := hidI hU2
      clear hb2 hU2
      go_wp2_with fail
      rw [← hW3]
      refine (refRings_any u.funcs gp (some ⟨b2, o2, none⟩) u.globals.length gc fc W3 hnf (funsMono HF.out HB3.out)).mono ?_
      rintro e w4 ⟨⟨pR, cR, rfl, hRg⟩, hb4⟩
      have hU3 : W3.heap[w.heap.size]? = some (.cells #[.slice gp u.globals.length gc, .slice (some ⟨b2, o2, none⟩) u.funcs.length fc] 35 (0, 0)) := by
        rw [hW3]
        exact (Go.Deep.blk_setCell_other w2 ⟨w.heap.size + 1, 6, none⟩ _ w.heap.size (fun e => by have e2 : w.heap.size = w.heap.size + 1 := e; omega)).trans HU2.out
      have HU4 := hidI ((hb4.block w.heap.size (Array.getElem?_eq_some_iff.1 hU3).1).trans hU3)
      clear hU3
      have HRg := hidI hRg
      have HB4 : Hid (Below w.heap.size w w4) := HB3.out.trans (hb4.mono HB3.out.size)
      have HR4 : Hid (w4.rowIs (w.heap.size + 1) 4 7 (fun y => .bool (if y = 6 then roundB u.funcs[k] else someB (wordsU u) (allIns u.funcs[k]) y))) := rowIs_below HR3.out hb4
      clear hRg hb4 hcu2 hc2 hf2 hc hf e0 e1 e2 e3 hW3
      go_wp2_with fail
      go_loopw [10] (fun i wr => ∃ x : Nat, x ≤ u.funcs.length ∧ i = .int .i64 x ∧ w4.grownBy wr (some (w.heap.size + 1)) ∧ wr.rowIs (w.heap.size + 1) 4 7 (fun y => .bool (if y = 6 then (roundB u.funcs[k] || ringTo u k x) else someB (wordsU u) (allIns u.funcs[k]) y))) (fun i _ => u.funcs.length - (intOf i).toNat)
      case atStart => exact ⟨0, by omega, rfl, grown_refl _ _, HR4.out.congr fun y _ => by simp [ringTo]⟩
      case round =>
        obtain ⟨x, hx, rfl, hg, hR⟩ := hrel
        have hzr := hR.lt
        have hgs := hg.size
        have HR := hidI hR
        have HGr := hidI hg
        have HBx : Hid (Below w.heap.size w wr) := HB4.out.grown hg HB4.out.size (fun kk e => by cases e; omega)
        by_cases hxt : x < u.funcs.length
        · obtain ⟨bR, oR, hpR, d1, _⟩ := intGet HRg.out (Below.refl _ _) (i := x) (by rw [ringsL_len]; exact hxt)
          obtain ⟨bR', oR', hpR', d2, _⟩ := intGet HRg.out (Below.refl _ _) (i := k) (by rw [ringsL_len]; exact hk)
          subst hpR
          cases hpR'
          rw [ringsL_get] at d1 d2
          have hne : bR ≠ w.heap.size + 1 := fun e => row_no_int HR4.out (by rw [← e]; exact d1)
          have y1 := lt_of_cell d1
          have c1 := (World.cell?_of_block (a := ⟨bR, oR + x, none⟩) (hg.block bR y1 (by simp; omega))).trans d1
          have c2 := (World.cell?_of_block (a := ⟨bR, oR + k, none⟩) (hg.block bR y1 (by simp; omega))).trans d2
          have hUr := (hg.block w.heap.size (Array.getElem?_eq_some_iff.1 HU4.out).1 (by simp)).trans HU4.out
          obtain ⟨hcu, _⟩ := blk hUr
          have u0 := hcu 0
          have u1 := hcu 1
          have y2 : bR < wr.heap.size := by omega
          have y3 : w.heap.size < wr.heap.size := by omega
          have gx0 : (0 : Int) ≤ (x : Int) := by omega
          have gx1 : (x : Int) < u.funcs.length := by omega
          have HCo := hidI (fun W (hW : Below wr.heap.size wr W) => callsOne_any u.funcs gp (some ⟨b2, o2, none⟩) u.globals.length gc fc k (x : Int) W hk (by omega) (funsMono HF.out (HBx.out.trans (hW.mono HBx.out.size))))
          clear hUr hcu hR hg d1 d2
          by_cases he : ringN u.funcs.length (tableU u.funcs) x = ringN u.funcs.length (tableU u.funcs) k
          · have hbq : (((ringN u.funcs.length (tableU u.funcs) x : Nat) : Int) == ((ringN u.funcs.length (tableU u.funcs) k : Nat) : Int)) = true := by simp [he]
            have HE := hidI he
            clear he
            obtain ⟨cb, hcb⟩ : ∃ cb, callsB u.funcs[k] (x : Int) = cb := ⟨_, rfl⟩
            rw [hcb] at HCo
            have hAll : ∀ w' : World, Below wr.heap.size wr w' → w'.cell? ⟨w.heap.size, 0, none⟩ = some (.slice gp u.globals.length gc) ∧ w'.cell? ⟨w.heap.size, 1, none⟩ = some (.slice (some ⟨b2, o2, none⟩) u.funcs.length fc) ∧ w'.cell? ⟨bR, oR + x, none⟩ = some (.int .i64 (ringN u.funcs.length (tableU u.funcs) x : Nat)) ∧ w'.cell? ⟨bR, oR + k, none⟩ = some (.int .i64 (ringN u.funcs.length (tableU u.funcs) k : Nat)) := fun W h => ⟨(h.cell (p := ⟨w.heap.size, 0, none⟩) y3).trans u0, (h.cell (p := ⟨w.heap.size, 1, none⟩) y3).trans u1, (h.cell (p := ⟨bR, _, none⟩) y2).trans c1, (h.cell (p := ⟨bR, _, none⟩) y2).trans c2⟩
            have HAll := hidI hAll
            have HCb := hidI hcb
            clear hAll hcb
            cases cb
            · go_wp2_with fail
              refine wp_region_held_drew (S := fun w' => w'.cell? ⟨w.heap.size, 0, none⟩ = some (.slice gp u.globals.length gc) ∧ w'.cell? ⟨w.heap.size, 1, none⟩ = some (.slice (some ⟨b2, o2, none⟩) u.funcs.length fc) ∧ w'.cell? ⟨bR, oR + x, none⟩ = some (.int .i64 (ringN u.funcs.length (tableU u.funcs) x : Nat)) ∧ w'.cell? ⟨bR, oR + k, none⟩ = some (.int .i64 (ringN u.funcs.length (tableU u.funcs) k : Nat))) (by kernel_rfl) (HAll.out _ (by repeat (first | with_reducible exact Below.refl _ _ | with_reducible exact HB3.out | with_reducible refine Below.drew ?_ | with_reducible refine below_drewN ?_ _ | with_reducible refine Below.setCell ?_ ?_ _ | with_reducible refine Below.alloc ?_ ?_ _ | with_reducible exact HB2.out | with_reducible exact HB1.out | with_reducible refine Below.trans ?_ (Below.mono hb3 ?_) | with_reducible refine Below.trans ?_ (Below.mono hb5 ?_) | with_reducible refine Below.trans ?_ (Below.mono hb4 ?_) | omega | (simp; omega) | simp))) (fun hS => ?_)
              refine takeW 0 133 ?_ rfl rfl (by kernel_rfl) (by kernel_rfl) (by kernel_rfl) (fun _ _ _ h => h) (Or.inl ⟨by rfl, ?_⟩) hS ?_
              rotate_left
              · intro w hSw; (try dsimp only at hSw); go_simp; try with_reducible rfl
              simp only [Act.put, List.setIfInBounds_toArray, List.set_cons_zero, List.set_cons_succ]
              refine takeW 1 134 ?_ rfl rfl (by kernel_rfl) (by kernel_rfl) (by kernel_rfl) (fun _ _ _ h => h) (Or.inl ⟨by rfl, ?_⟩) hS ?_
              rotate_left
              · intro w hSw; (try dsimp only at hSw); go_simp; try with_reducible rfl
              simp only [Act.put, List.setIfInBounds_toArray, List.set_cons_zero, List.set_cons_succ]
              refine takeW 2 135 ?_ rfl rfl (by kernel_rfl) (by kernel_rfl) (by kernel_rfl) (fun _ _ _ h => h) (Or.inl ⟨by rfl, ?_⟩) hS ?_
              rotate_left
              · intro w hSw; (try dsimp only at hSw); go_simp; try with_reducible rfl
              simp only [Act.put, List.setIfInBounds_toArray, List.set_cons_zero, List.set_cons_succ]
              refine takeW 3 136 ?_ rfl rfl (by kernel_rfl) (by kernel_rfl) (by kernel_rfl) (fun _ _ _ h => h) (Or.inl ⟨by rfl, ?_⟩) hS ?_
              rotate_left
              · intro w hSw; (try dsimp only at hSw); go_simp; try with_reducible rfl
              simp only [Act.put, List.setIfInBounds_toArray, List.set_cons_zero, List.set_cons_succ]
              refine takeW 4 137 ?_ rfl rfl (by kernel_rfl) (by kernel_rfl) (by kernel_rfl) (fun _ _ _ h => h) (Or.inl ⟨by rfl, ?_⟩) hS ?_
              rotate_left
              · intro w hSw; (try dsimp only at hSw); go_simp; try with_reducible rfl
              simp only [Act.put, List.setIfInBounds_toArray, List.set_cons_zero, List.set_cons_succ]
              refine takeW 5 138 ?_ rfl rfl (by kernel_rfl) (by kernel_rfl) (by kernel_rfl) (fun _ _ _ h => h) (Or.inl ⟨by rfl, ?_⟩) hS ?_
              rotate_left
              · intro w hSw; (try dsimp only at hSw); go_simp; try with_reducible rfl
              simp only [Act.put, List.setIfInBounds_toArray, List.set_cons_zero, List.set_cons_succ]
              refine takeW 6 139 ?_ rfl rfl (by kernel_rfl) (by kernel_rfl) (by kernel_rfl) (fun _ _ _ h => h) (Or.inl ⟨by rfl, ?_⟩) hS ?_
              rotate_left
              · intro w hSw; (try dsimp only at hSw); go_simp; try with_reducible rfl
              simp only [Act.put, List.setIfInBounds_toArray, List.set_cons_zero, List.set_cons_succ]
              refine takeW 7 140 ?_ rfl rfl (by kernel_rfl) (by kernel_rfl) (by kernel_rfl) (fun _ _ _ h => h) (Or.inl ⟨by rfl, ?_⟩) hS ?_
              rotate_left
              · intro w hSw; (try dsimp only at hSw); go_simp; try with_reducible rfl
              simp only [Act.put, List.setIfInBounds_toArray, List.set_cons_zero, List.set_cons_succ]
              refine takeW 8 141 ?_ rfl rfl (by kernel_rfl) (by kernel_rfl) (by kernel_rfl) (fun _ _ _ h => h) (Or.inl ⟨by rfl, ?_⟩) hS ?_
              rotate_left
              · intro w hSw; (try dsimp only at hSw); go_simp; try with_reducible rfl
              simp only [Act.put, List.setIfInBounds_toArray, List.set_cons_zero, List.set_cons_succ]
              refine takeW 9 142 ?_ rfl rfl (by kernel_rfl) (by kernel_rfl) (by kernel_rfl) (fun _ _ _ h => h) (Or.inl ⟨by rfl, ?_⟩) hS ?_
              rotate_left
              · intro w hSw; (try dsimp only at hSw); go_simp; try with_reducible rfl
              simp only [Act.put, List.setIfInBounds_toArray, List.set_cons_zero, List.set_cons_succ]
              refine takeW 10 143 ?_ rfl rfl (by kernel_rfl) (by kernel_rfl) (by kernel_rfl) (fun _ _ _ h => h) (Or.inl ⟨by rfl, ?_⟩) hS ?_
              rotate_left
              · intro w hSw; (try dsimp only at hSw); go_simp; try with_reducible rfl
              simp only [Act.put, List.setIfInBounds_toArray, List.set_cons_zero, List.set_cons_succ]
              refine takeW 11 144 ?_ rfl rfl (by kernel_rfl) (by kernel_rfl) (by kernel_rfl) (fun _ _ _ h => h) (Or.inl ⟨by rfl, ?_⟩) hS ?_
              rotate_left
              · intro w hSw; (try dsimp only at hSw); go_simp; try with_reducible rfl
              simp only [Act.put, List.setIfInBounds_toArray, List.set_cons_zero, List.set_cons_succ]
              refine takeW 12 145 ?_ rfl rfl (by kernel_rfl) (by kernel_rfl) (by kernel_rfl) (fun _ _ _ h => h) (Or.inl ⟨by rfl, ?_⟩) hS ?_
              rotate_left
              · intro w hSw; (try dsimp only at hSw); go_simp; try with_reducible rfl
              simp only [Act.put, List.setIfInBounds_toArray, List.set_cons_zero, List.set_cons_succ]
              refine wpAnyH_ready (rs := [13]) (by kernel_rfl) (by simp) ?_
              refine AllReadyH.cons rfl (fun K hK => ?_) AllReadyH.nil
              go_simp
              refine (HCo.out _ (by repeat (first | with_reducible exact Below.refl _ _ | with_reducible exact HB3.out | with_reducible refine Below.drew ?_ | with_reducible refine below_drewN ?_ _ | with_reducible refine Below.setCell ?_ ?_ _ | with_reducible refine Below.alloc ?_ ?_ _ | with_reducible exact HB2.out | with_reducible exact HB1.out | with_reducible refine Below.trans ?_ (Below.mono hb3 ?_) | with_reducible refine Below.trans ?_ (Below.mono hb5 ?_) | with_reducible refine Below.trans ?_ (Below.mono hb4 ?_) | omega | (simp; omega) | simp))).mono ?_
              rintro e w5 ⟨rfl, hb5⟩
              have hN5 : Below wr.heap.size wr w5 := Below.trans (by repeat (first | with_reducible exact Below.refl _ _ | with_reducible exact HB3.out | with_reducible refine Below.drew ?_ | with_reducible refine below_drewN ?_ _ | with_reducible refine Below.setCell ?_ ?_ _ | with_reducible refine Below.alloc ?_ ?_ _ | with_reducible exact HB2.out | with_reducible exact HB1.out | with_reducible refine Below.trans ?_ (Below.mono hb3 ?_) | with_reducible refine Below.trans ?_ (Below.mono hb5 ?_) | with_reducible refine Below.trans ?_ (Below.mono hb4 ?_) | omega | (simp; omega) | simp)) (hb5.mono (by first | omega | (simp; done) | (simp; omega)))
              refine hK.out _ _ (HAll.out _ hN5) (fun hS => ?_)
              clear hK K
              try simp only [Act.put, List.setIfInBounds_toArray, List.set_cons_zero, List.set_cons_succ]
              refine takeW 14 147 ?_ rfl rfl (by kernel_rfl) (by kernel_rfl) (by kernel_rfl) (fun _ _ _ h => h) (Or.inl ⟨by rfl, ?_⟩) hS ?_
              rotate_left
              · intro w hSw; (try dsimp only at hSw); go_simp; try with_reducible rfl
              simp only [Act.put, List.setIfInBounds_toArray, List.set_cons_zero, List.set_cons_succ]
              refine wpAnyH_done (by kernel_rfl) ?_ _
              have HR5 := hidI (rowIs_below HR.out hN5)
              have HG5 : Hid (w4.grownBy w5 (some (w.heap.size + 1))) := hidI (grow_below HGr.out hN5)
              have z5 := HR5.out.lt
              have f5 := HR5.out.frozen 6
              have c5 := HR5.out.cell (show 6 < 7 by omega)
              have HN5 := hidI hN5
              clear hN5 hS hb5
              go_wp2_with fail
              refine ⟨⟨x + 1, by omega, by go_num, HG5.out, HR5.out.congr fun y _ => ?_⟩, by simp [intOf]; omega⟩
              rw [ringTo_succ, fnU_get hk, HCb.out, Bool.false_and, Bool.or_false]
            · go_wp2_with fail
              refine wp_region_held_drew (S := fun w' => w'.cell? ⟨w.heap.size, 0, none⟩ = some (.slice gp u.globals.length gc) ∧ w'.cell? ⟨w.heap.size, 1, none⟩ = some (.slice (some ⟨b2, o2, none⟩) u.funcs.length fc) ∧ w'.cell? ⟨bR, oR + x, none⟩ = some (.int .i64 (ringN u.funcs.length (tableU u.funcs) x : Nat)) ∧ w'.cell? ⟨bR, oR + k, none⟩ = some (.int .i64 (ringN u.funcs.length (tableU u.funcs) k : Nat))) (by kernel_rfl) (HAll.out _ (by repeat (first | with_reducible exact Below.refl _ _ | with_reducible exact HB3.out | with_reducible refine Below.drew ?_ | with_reducible refine below_drewN ?_ _ | with_reducible refine Below.setCell ?_ ?_ _ | with_reducible refine Below.alloc ?_ ?_ _ | with_reducible exact HB2.out | with_reducible exact HB1.out | with_reducible refine Below.trans ?_ (Below.mono hb3 ?_) | with_reducible refine Below.trans ?_ (Below.mono hb5 ?_) | with_reducible refine Below.trans ?_ (Below.mono hb4 ?_) | omega | (simp; omega) | simp))) (fun hS => ?_)
              refine takeW 0 133 ?_ rfl rfl (by kernel_rfl) (by kernel_rfl) (by kernel_rfl) (fun _ _ _ h => h) (Or.inl ⟨by rfl, ?_⟩) hS ?_
              rotate_left
              · intro w hSw; (try dsimp only at hSw); go_simp; try with_reducible rfl
              simp only [Act.put, List.setIfInBounds_toArray, List.set_cons_zero, List.set_cons_succ]
              refine takeW 1 134 ?_ rfl rfl (by kernel_rfl) (by kernel_rfl) (by kernel_rfl) (fun _ _ _ h => h) (Or.inl ⟨by rfl, ?_⟩) hS ?_
              rotate_left
              · intro w hSw; (try dsimp only at hSw); go_simp; try with_reducible rfl
              simp only [Act.put, List.setIfInBounds_toArray, List.set_cons_zero, List.set_cons_succ]
              refine takeW 2 135 ?_ rfl rfl (by kernel_rfl) (by kernel_rfl) (by kernel_rfl) (fun _ _ _ h => h) (Or.inl ⟨by rfl, ?_⟩) hS ?_
              rotate_left
              · intro w hSw; (try dsimp only at hSw); go_simp; try with_reducible rfl
              simp only [Act.put, List.setIfInBounds_toArray, List.set_cons_zero, List.set_cons_succ]
              refine takeW 3 136 ?_ rfl rfl (by kernel_rfl) (by kernel_rfl) (by kernel_rfl) (fun _ _ _ h => h) (Or.inl ⟨by rfl, ?_⟩) hS ?_
              rotate_left
              · intro w hSw; (try dsimp only at hSw); go_simp; try with_reducible rfl
              simp only [Act.put, List.setIfInBounds_toArray, List.set_cons_zero, List.set_cons_succ]
              refine takeW 4 137 ?_ rfl rfl (by kernel_rfl) (by kernel_rfl) (by kernel_rfl) (fun _ _ _ h => h) (Or.inl ⟨by rfl, ?_⟩) hS ?_
              rotate_left
              · intro w hSw; (try dsimp only at hSw); go_simp; try with_reducible rfl
              simp only [Act.put, List.setIfInBounds_toArray, List.set_cons_zero, List.set_cons_succ]
              refine takeW 5 138 ?_ rfl rfl (by kernel_rfl) (by kernel_rfl) (by kernel_rfl) (fun _ _ _ h => h) (Or.inl ⟨by rfl, ?_⟩) hS ?_
              rotate_left
              · intro w hSw; (try dsimp only at hSw); go_simp; try with_reducible rfl
              simp only [Act.put, List.setIfInBounds_toArray, List.set_cons_zero, List.set_cons_succ]
              refine takeW 6 139 ?_ rfl rfl (by kernel_rfl) (by kernel_rfl) (by kernel_rfl) (fun _ _ _ h => h) (Or.inl ⟨by rfl, ?_⟩) hS ?_
              rotate_left
              · intro w hSw; (try dsimp only at hSw); go_simp; try with_reducible rfl
              simp only [Act.put, List.setIfInBounds_toArray, List.set_cons_zero, List.set_cons_succ]
              refine takeW 7 140 ?_ rfl rfl (by kernel_rfl) (by kernel_rfl) (by kernel_rfl) (fun _ _ _ h => h) (Or.inl ⟨by rfl, ?_⟩) hS ?_
              rotate_left
              · intro w hSw; (try dsimp only at hSw); go_simp; try with_reducible rfl
              simp only [Act.put, List.setIfInBounds_toArray, List.set_cons_zero, List.set_cons_succ]
              refine takeW 8 141 ?_ rfl rfl (by kernel_rfl) (by kernel_rfl) (by kernel_rfl) (fun _ _ _ h => h) (Or.inl ⟨by rfl, ?_⟩) hS ?_
              rotate_left
              · intro w hSw; (try dsimp only at hSw); go_simp; try with_reducible rfl
              simp only [Act.put, List.setIfInBounds_toArray, List.set_cons_zero, List.set_cons_succ]
              refine takeW 9 142 ?_ rfl rfl (by kernel_rfl) (by kernel_rfl) (by kernel_rfl) (fun _ _ _ h => h) (Or.inl ⟨by rfl, ?_⟩) hS ?_
              rotate_left
              · intro w hSw; (try dsimp only at hSw); go_simp; try with_reducible rfl
              simp only [Act.put, List.setIfInBounds_toArray, List.set_cons_zero, List.set_cons_succ]
              refine takeW 10 143 ?_ rfl rfl (by kernel_rfl) (by kernel_rfl) (by kernel_rfl) (fun _ _ _ h => h) (Or.inl ⟨by rfl, ?_⟩) hS ?_
              rotate_left
              · intro w hSw; (try dsimp only at hSw); go_simp; try with_reducible rfl
              simp only [Act.put, List.setIfInBounds_toArray, List.set_cons_zero, List.set_cons_succ]
              refine takeW 11 144 ?_ rfl rfl (by kernel_rfl) (by kernel_rfl) (by kernel_rfl) (fun _ _ _ h => h) (Or.inl ⟨by rfl, ?_⟩) hS ?_
              rotate_left
              · intro w hSw; (try dsimp only at hSw); go_simp; try with_reducible rfl
              simp only [Act.put, List.setIfInBounds_toArray, List.set_cons_zero, List.set_cons_succ]
              refine takeW 12 145 ?_ rfl rfl (by kernel_rfl) (by kernel_rfl) (by kernel_rfl) (fun _ _ _ h => h) (Or.inl ⟨by rfl, ?_⟩) hS ?_
              rotate_left
              · intro w hSw; (try dsimp only at hSw); go_simp; try with_reducible rfl
              simp only [Act.put, List.setIfInBounds_toArray, List.set_cons_zero, List.set_cons_succ]
              refine wpAnyH_ready (rs := [13]) (by kernel_rfl) (by simp) ?_
              refine AllReadyH.cons rfl (fun K hK => ?_) AllReadyH.nil
              go_simp
              refine (HCo.out _ (by repeat (first | with_reducible exact Below.refl _ _ | with_reducible exact HB3.out | with_reducible refine Below.drew ?_ | with_reducible refine below_drewN ?_ _ | with_reducible refine Below.setCell ?_ ?_ _ | with_reducible refine Below.alloc ?_ ?_ _ | with_reducible exact HB2.out | with_reducible exact HB1.out | with_reducible refine Below.trans ?_ (Below.mono hb3 ?_) | with_reducible refine Below.trans ?_ (Below.mono hb5 ?_) | with_reducible refine Below.trans ?_ (Below.mono hb4 ?_) | omega | (simp; omega) | simp))).mono ?_
              rintro e w5 ⟨rfl, hb5⟩
              have hN5 : Below wr.heap.size wr w5 := Below.trans (by repeat (first | with_reducible exact Below.refl _ _ | with_reducible exact HB3.out | with_reducible refine Below.drew ?_ | with_reducible refine below_drewN ?_ _ | with_reducible refine Below.setCell ?_ ?_ _ | with_reducible refine Below.alloc ?_ ?_ _ | with_reducible exact HB2.out | with_reducible exact HB1.out | with_reducible refine Below.trans ?_ (Below.mono hb3 ?_) | with_reducible refine Below.trans ?_ (Below.mono hb5 ?_) | with_reducible refine Below.trans ?_ (Below.mono hb4 ?_) | omega | (simp; omega) | simp)) (hb5.mono (by first | omega | (simp; done) | (simp; omega)))
              refine hK.out _ _ (HAll.out _ hN5) (fun hS => ?_)
              clear hK K
              try simp only [Act.put, List.setIfInBounds_toArray, List.set_cons_zero, List.set_cons_succ]
              refine takeW 14 147 ?_ rfl rfl (by kernel_rfl) (by kernel_rfl) (by kernel_rfl) (fun _ _ _ h => h) (Or.inl ⟨by rfl, ?_⟩) hS ?_
              rotate_left
              · intro w hSw; (try dsimp only at hSw); go_simp; try with_reducible rfl
              simp only [Act.put, List.setIfInBounds_toArray, List.set_cons_zero, List.set_cons_succ]
              refine wpAnyH_done (by kernel_rfl) ?_ _
              have HR5 := hidI (rowIs_below HR.out hN5)
              have HG5 : Hid (w4.grownBy w5 (some (w.heap.size + 1))) := hidI (grow_below HGr.out hN5)
              have z5 := HR5.out.lt
              have f5 := HR5.out.frozen 6
              have c5 := HR5.out.cell (show 6 < 7 by omega)
              have HN5 := hidI hN5
              clear hN5 hS hb5
              go_wp2_with fail
              refine ⟨⟨x + 1, by omega, by go_num, grow_set HG5.out _ _, (HR5.out.set 6 (.bool true)).congr fun y _ => ?_⟩, by simp [intOf]; omega⟩
              rw [ringTo_succ, fnU_get hk, HCb.out, HE.out]
              split <;> simp
          · have hbq : (((ringN u.funcs.length (tableU u.funcs) x : Nat) : Int) == ((ringN u.funcs.length (tableU u.funcs) k : Nat) : Int)) = false := by simp; omega
            have HE := hidI he
            clear he
            go_wp2_with fail
            go_quiet (fail)
            go_wp2_with fail
            refine ⟨⟨x + 1, by omega, by go_num, ?_, ?_⟩, by simp [intOf]; omega⟩
            · exact ⟨HGr.out.os, HGr.out.tape, HGr.out.output, HGr.out.size, HGr.out.block⟩
            · refine (HR.out.drew).congr fun y _ => ?_
              rw [ringTo_succ, show (ringN u.funcs.length (tableU u.funcs) x == ringN u.funcs.length (tableU u.funcs) k) = false from by simpa using HE.out, Bool.and_false, Bool.or_false]
        · obtain rfl : x = u.funcs.length := by omega
          clear hR hg
          go_wp2_with fail
          go_ret
          refine ⟨_, rfl, HBx.out, by omega, HR.out.congr fun y hy => ?_⟩
          unfold ownB
          rw [fnU_get hk]
          split
          · rfl
          · rw [someB_all]
end Go.Proofs.YtlalmbklhmpngaaDoor
