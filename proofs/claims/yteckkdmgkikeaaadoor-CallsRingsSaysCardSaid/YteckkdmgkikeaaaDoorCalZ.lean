/-
  The contract of calls.Order.
-/
import Derived.Test.YteckkdmgkikeaaaDoorCalY
import Derived.WalkKit
import Derived.WalkSpells
import Derived.WalkLawsBesides
namespace Go.Proofs.YteckkdmgkikeaaaDoor
open Go.RowKit

theorem res_two_drew {w : World} {R : Nat} {T : TypeId} (h : w.heap[R]? = some (.cells #[.int .i64 0, .int .i64 0] T (0, 0))) (o1 o2 : Obj) (e a : Int) (j : Nat) :
    ((((w.setCell ⟨R, 0, none⟩ (.int .i64 e)).setCell ⟨R, 1, none⟩ (.int .i64 a)).alloc o1).alloc o2).drew.cell? ⟨R, j, none⟩ = (#[.int .i64 e, .int .i64 a] : Array Value)[j]? :=
  (blk (heap_drew (heap_step (heap_step (heap_set (heap_set h 0 _) 1 _))))).1 j
set_option maxRecDepth 100000 in
set_option maxHeartbeats 1000000 in
theorem ord_bad (u : UniL) (gp fp : Option Addr) (gc fc : Nat) (w : World) (hgl : u.globals.length * 48 ≤ 140737488351232) (hG : SliceAt w 3 (GloR w) gp u.globals) (hfl : u.funcs.length * 56 ≤ 140737488351232) (hF : SliceAt w 4 (FunR w) fp u.funcs) (hw0 : Ways w) (h : (chk u).1 ≠ 0) :
    Calls Tryd.prog 30 #[.agg #[.slice gp u.globals.length gc, .slice fp u.funcs.length fc]] w fun e w' => e = .returned (.tuple #[.slice none 0 0, .agg #[.int .i64 (chk u).1, .int .i64 (chk u).2]]) ∧ Below w.heap.size w w' := by
  have HG := hidI hG
  have HF := hidI hF
  have HW := hidI hw0
  have HH := hidI h
  have hne : ((chk u).1 == 0 && (chk u).2 == 0) = false := by simp [h]
  have hq : ∀ w, (binOp .neq 27 (.agg #[.int .i64 (chk u).1, .int .i64 (chk u).2]) (.agg #[.int .i64 0, .int .i64 0])).run Tryd.prog w = .ok (.bool true) w := fun w => by rw [run_neFault, hne]; rfl
  clear hG hF hw0 h hne
  go_enter Tryd.func30, Tryd.ntmps30
  go_wp2_with fail
  go_step3
  go_wp2_with fail
  refine (gr_bad u _ _ _ _ _ hgl (glosMono HG.out (by repeat (first | with_reducible exact Below.refl _ _ | with_reducible exact HB3.out | with_reducible refine Below.drew ?_ | with_reducible refine below_drewN ?_ _ | with_reducible refine Below.setCell ?_ ?_ _ | with_reducible refine Below.alloc ?_ ?_ _ | with_reducible exact HB2.out | with_reducible exact HB1.out | with_reducible refine Below.trans ?_ (Below.mono hb3 ?_) | with_reducible refine Below.trans ?_ (Below.mono hb5 ?_) | with_reducible refine Below.trans ?_ (Below.mono hb4 ?_) | omega | (simp; omega) | simp))) hfl (funsMono HF.out (by repeat (first | with_reducible exact Below.refl _ _ | with_reducible exact HB3.out | with_reducible refine Below.drew ?_ | with_reducible refine below_drewN ?_ _ | with_reducible refine Below.setCell ?_ ?_ _ | with_reducible refine Below.alloc ?_ ?_ _ | with_reducible exact HB2.out | with_reducible exact HB1.out | with_reducible refine Below.trans ?_ (Below.mono hb3 ?_) | with_reducible refine Below.trans ?_ (Below.mono hb5 ?_) | with_reducible refine Below.trans ?_ (Below.mono hb4 ?_) | omega | (simp; omega) | simp))) (HW.out.below (by repeat (first | with_reducible exact Below.refl _ _ | with_reducible exact HB3.out | with_reducible refine Below.drew ?_ | with_reducible refine below_drewN ?_ _ | with_reducible refine Below.setCell ?_ ?_ _ | with_reducible refine Below.alloc ?_ ?_ _ | with_reducible exact HB2.out | with_reducible exact HB1.out | with_reducible refine Below.trans ?_ (Below.mono hb3 ?_) | with_reducible refine Below.trans ?_ (Below.mono hb5 ?_) | with_reducible refine Below.trans ?_ (Below.mono hb4 ?_) | omega | (simp; omega) | simp))) HH.out).mono ?_
  rintro e w2 ⟨rfl, hb2⟩
  have HB1 : Hid (Below w.heap.size w w2) := Below.trans (by repeat (first | with_reducible exact Below.refl _ _ | with_reducible exact HB3.out | with_reducible refine Below.drew ?_ | with_reducible refine below_drewN ?_ _ | with_reducible refine Below.setCell ?_ ?_ _ | with_reducible refine Below.alloc ?_ ?_ _ | with_reducible exact HB2.out | with_reducible exact HB1.out | with_reducible refine Below.trans ?_ (Below.mono hb3 ?_) | with_reducible refine Below.trans ?_ (Below.mono hb5 ?_) | with_reducible refine Below.trans ?_ (Below.mono hb4 ?_) | omega | (simp; omega) | simp)) (hb2.mono (by simp; omega))
  have hR := heap_below hb2 (k := w.heap.size + 1) (by simp) (heap_at (w := w.alloc (.cells #[.slice gp u.globals.length gc, .slice fp u.funcs.length fc] 25)) (o := .cells #[.int .i64 0, .int .i64 0] 27) (by simp))
  obtain ⟨hcc, hcf⟩ := blk hR
  have hz : w.heap.size + 1 < w2.heap.size := by have := hb2.size; simp at this; omega
  clear hb2
  go_wp2_with fail
  have hzz : w.heap.size + 1 < w2.heap.size + 1 := by omega
  have HX := hidI (res_two_drew hR)
  clear hR
  go_region
  all_goals go_wp2
  all_goals
    rw [Exit.noGoto_ret]
    refine bodyPost_ret (v := .tuple #[.slice none 0 0, .agg #[.int .i64 (chk u).1, .int .i64 (chk u).2]]) ?_ rfl ⟨rfl, ?_⟩
    · have hx := HX.out
      simp [results, Tryd.results30, go_sem, hx]
    · repeat (first | with_reducible exact Below.refl _ _ | with_reducible exact HB3.out | with_reducible refine Below.drew ?_ | with_reducible refine below_drewN ?_ _ | with_reducible refine Below.setCell ?_ ?_ _ | with_reducible refine Below.alloc ?_ ?_ _ | with_reducible exact HB2.out | with_reducible exact HB1.out | with_reducible refine Below.trans ?_ (Below.mono hb3 ?_) | with_reducible refine Below.trans ?_ (Below.mono hb5 ?_) | with_reducible refine Below.trans ?_ (Below.mono hb4 ?_) | omega | (simp; omega) | simp)


theorem infoInt6 : (Tryd.prog.info? 3).map (fun i => (i.zero, i.size, i.bytes)) = some (some (.int .i64 0), 1, 8) := by kernel_rfl
theorem underInts6 : Tryd.prog.underlying 39 = some (.slice 3) := by kernel_rfl
theorem infoBool6 : (Tryd.prog.info? 4).map (fun i => (i.zero, i.size, i.bytes)) = some (some (.bool false), 1, 1) := by kernel_rfl
theorem underBools6 : Tryd.prog.underlying 62 = some (.slice 4) := by kernel_rfl

/-- ready by the rows of the graph, or by who calls whom -/
theorem readyG_U (xs : List FunL) (told : Nat → Bool) (r : Nat → Nat) {k : Nat} (hk : k < xs.length) : readyG (graphTo xs xs.length) told r k = readyB xs.length (edgeU xs) r told k := by
  have hg : (graphTo xs xs.length).getD k [] = rowTo xs[k] xs.length := by
    unfold graphTo
    simp [List.getD, hk]
  unfold readyG readyB
  rw [hg]
  congr 1
  rw [Bool.eq_iff_iff]
  simp only [Bool.not_eq_true', List.any_eq_false, List.all_eq_true, Bool.not_eq_true']
  constructor
  · intro h x hx
    have hx2 := List.mem_range.1 hx
    cases he : edgeU xs k x
    · rfl
    · have hm : (x : Int) ∈ rowTo xs[k] xs.length := rowTo_iff.2 ⟨⟨by omega, by omega⟩, by unfold edgeU at he; rw [List.getElem?_eq_getElem hk] at he; exact he⟩
      have := h _ hm
      unfold lateB at this
      simpa using this
  · intro h x hx
    obtain ⟨⟨h0, h1⟩, hc⟩ := rowTo_iff.1 hx
    obtain ⟨y, rfl⟩ := Int.eq_ofNat_of_zero_le h0
    have := h y (List.mem_range.2 (by omega))
    have he : edgeU xs k y = true := by unfold edgeU; rw [List.getElem?_eq_getElem hk]; exact hc
    rw [he] at this
    unfold lateB
    simpa using this
theorem OrdW.set {w : World} {n A C R T : Nat} {gp : Option Addr} {gc bt bg br : Nat} {told : Nat → Bool} {r : Nat → Nat} (h : OrdW w n A C R T gp gc bt bg br told r) {k : Nat} (h1 : R ≠ T) (h2 : bt ≠ T) (h3 : bg ≠ T) (h4 : br ≠ T) : OrdW (w.setCell ⟨T, k, none⟩ (.bool true)) n A C R T gp gc bt bg br (fun j => if j = k then true else told j) r := by
  refine ⟨(cell_set_ne h2).trans h.cT, (cell_set_ne h3).trans h.cG, (cell_set_ne h4).trans h.cR, (h.rT.set k _).congr fun j _ => ?_, h.rR.setOther (a := ⟨T, k, none⟩) h1 _⟩
  by_cases e : j = k
  · simp [e]
  · simp [e]
theorem OrdW.grown {w w' : World} {n A C R T : Nat} {gp : Option Addr} {gc bt bg br : Nat} {told : Nat → Bool} {r : Nat → Nat} (h : OrdW w n A C R T gp gc bt bg br told r) {row : Option Nat} (hg : w.grownBy w' row) (h0 : row ≠ some T) (h1 : row ≠ some R) (h2 : row ≠ some bt) (h3 : row ≠ some bg) (h4 : row ≠ some br) : OrdW w' n A C R T gp gc bt bg br told r :=
  ⟨(World.cell?_of_block (hg.block bt (lt_of_cell h.cT) (fun e => h2 e.symm))).trans h.cT, (World.cell?_of_block (hg.block bg (lt_of_cell h.cG) (fun e => h3 e.symm))).trans h.cG, (World.cell?_of_block (hg.block br (lt_of_cell h.cR) (fun e => h4 e.symm))).trans h.cR, h.rT.of_block (hg.block T h.rT.lt (fun e => h0 e.symm)), h.rR.of_block (hg.block R h.rR.lt (fun e => h1 e.symm))⟩
theorem OrdW.congr {w : World} {n A C R T : Nat} {gp : Option Addr} {gc bt bg br : Nat} {told told' : Nat → Bool} {r : Nat → Nat} (h : OrdW w n A C R T gp gc bt bg br told r) (e : ∀ j, told j = told' j) : OrdW w n A C R T gp gc bt bg br told' r :=
  ⟨h.cT, h.cG, h.cR, h.rT.congr fun j _ => by rw [e j], h.rR⟩
theorem intsN_snoc (l : List Nat) (k : Nat) : intsN (l ++ [k]) = intsN l ++ [(k : Int)] := by simp [intsN]

set_option maxRecDepth 100000 in
set_option maxHeartbeats 2000000 in
theorem ord_ok (u : UniL) (gp fp : Option Addr) (gc fc : Nat) (w : World) (hgl : u.globals.length * 48 ≤ 140737488351232) (hG : SliceAt w 3 (GloR w) gp u.globals) (hfl : u.funcs.length * 56 ≤ 140737488351232) (hF : SliceAt w 4 (FunR w) fp u.funcs) (hw0 : Ways w) (h : (chk u).1 = 0) :
    Calls Tryd.prog 30 #[.agg #[.slice gp u.globals.length gc, .slice fp u.funcs.length fc]] w fun e w' => ∃ p c, e = .returned (.tuple #[.slice p u.funcs.length c, .agg #[.int .i64 0, .int .i64 0]]) ∧ SliceAt w' 1 IntR p (intsN (orderU u.funcs)) ∧ Below w.heap.size w w' := by
  obtain ⟨i1, k1, k2, k3, k4⟩ := info_parts infoInt6
  obtain ⟨i2, l1, l2, l3, l4⟩ := info_parts infoBool6
  have HG := hidI hG
  have HF := hidI hF
  have HW := hidI hw0
  have HH := hidI h
  have hnf := (chk_ok h).2.nf
  have hmk := run_make_row 62 4 i2 (.bool false) underBools6 l1 l2 l3 rfl .i64 .i64 u.funcs.length (by rw [l4]; omega) (by omega)
  have hq : ∀ w, (binOp .neq 27 (.agg #[.int .i64 0, .int .i64 0]) (.agg #[.int .i64 0, .int .i64 0])).run Tryd.prog w = .ok (.bool false) w := fun w => by rw [run_neFault]; rfl
  clear hG hF hw0 h
  go_enter Tryd.func30, Tryd.ntmps30
  go_wp2_with fail
  go_step3
  go_wp2_with fail
  refine (gr_ok u _ _ _ _ _ hgl (glosMono HG.out (by repeat (first | with_reducible exact Below.refl _ _ | with_reducible exact HB3.out | with_reducible refine Below.drew ?_ | with_reducible refine below_drewN ?_ _ | with_reducible refine Below.setCell ?_ ?_ _ | with_reducible refine Below.alloc ?_ ?_ _ | with_reducible exact HB2.out | with_reducible exact HB1.out | with_reducible refine Below.trans ?_ (Below.mono hb3 ?_) | with_reducible refine Below.trans ?_ (Below.mono hb5 ?_) | with_reducible refine Below.trans ?_ (Below.mono hb4 ?_) | omega | (simp; omega) | simp))) hfl (funsMono HF.out (by repeat (first | with_reducible exact Below.refl _ _ | with_reducible exact HB3.out | with_reducible refine Below.drew ?_ | with_reducible refine below_drewN ?_ _ | with_reducible refine Below.setCell ?_ ?_ _ | with_reducible refine Below.alloc ?_ ?_ _ | with_reducible exact HB2.out | with_reducible exact HB1.out | with_reducible refine Below.trans ?_ (Below.mono hb3 ?_) | with_reducible refine Below.trans ?_ (Below.mono hb5 ?_) | with_reducible refine Below.trans ?_ (Below.mono hb4 ?_) | omega | (simp; omega) | simp))) (HW.out.below (by repeat (first | with_reducible exact Below.refl _ _ | with_reducible exact HB3.out | with_reducible refine Below.drew ?_ | with_reducible refine below_drewN ?_ _ | with_reducible refine Below.setCell ?_ ?_ _ | with_reducible refine Below.alloc ?_ ?_ _ | with_reducible exact HB2.out | with_reducible exact HB1.out | with_reducible refine Below.trans ?_ (Below.mono hb3 ?_) | with_reducible refine Below.trans ?_ (Below.mono hb5 ?_) | with_reducible refine Below.trans ?_ (Below.mono hb4 ?_) | omega | (simp; omega) | simp))) HH.out).mono ?_
  rintro e w2 ⟨T, rfl, hS2, hb2⟩
  have HB1 : Hid (Below w.heap.size w w2) := Below.trans (by repeat (first | with_reducible exact Below.refl _ _ | with_reducible exact HB3.out | with_reducible refine Below.drew ?_ | with_reducible refine below_drewN ?_ _ | with_reducible refine Below.setCell ?_ ?_ _ | with_reducible refine Below.alloc ?_ ?_ _ | with_reducible exact HB2.out | with_reducible exact HB1.out | with_reducible refine Below.trans ?_ (Below.mono hb3 ?_) | with_reducible refine Below.trans ?_ (Below.mono hb5 ?_) | with_reducible refine Below.trans ?_ (Below.mono hb4 ?_) | omega | (simp; omega) | simp)) (hb2.mono (by simp; omega))
  have hR := heap_below hb2 (k := w.heap.size + 1) (by simp) (heap_at (w := w.alloc (.cells #[.slice gp u.globals.length gc, .slice fp u.funcs.length fc] 25)) (o := .cells #[.int .i64 0, .int .i64 0] 27) (by simp))
  have hz : w.heap.size + 1 < w2.heap.size := by have := hb2.size; simp at this; omega
  clear hb2
  have HR := hidI hR
  have HS2 := hidI hS2
  clear hR hS2
  have hr := fun W h => rings_any (graphTo u.funcs u.funcs.length) (some ⟨T, 0, none⟩) u.funcs.length (tableU u.funcs) W (by rw [graphTo_all]; exact hnf) h (graphTo_in _) (fun a b ha hb => by rw [graphTo_all] at *; exact table_path u.funcs ha hb)
  rw [graphTo_all] at hr
  have hHr := hidI hr
  clear hr
  go_wp2_with fail
  refine (hHr.out _ (rows_below HS2.out (by repeat (first | with_reducible exact Below.refl _ _ | with_reducible exact HB3.out | with_reducible refine Below.drew ?_ | with_reducible refine below_drewN ?_ _ | with_reducible refine Below.setCell ?_ ?_ _ | with_reducible refine Below.alloc ?_ ?_ _ | with_reducible exact HB2.out | with_reducible exact HB1.out | with_reducible refine Below.trans ?_ (Below.mono hb3 ?_) | with_reducible refine Below.trans ?_ (Below.mono hb5 ?_) | with_reducible refine Below.trans ?_ (Below.mono hb4 ?_) | omega | (simp; omega) | simp)))).mono ?_
  rintro e w3 ⟨R, rfl, hr3, hR3, hb3⟩
  have hzg : w2.heap.size + 1 < w3.heap.size := by have := hb3.size; simp at this; omega
  have hzg0 : w2.heap.size < w3.heap.size := by omega
  have hzg1 : w2.heap.size < w3.heap.size + 1 := by omega
  have hzg2 : w2.heap.size < w3.heap.size + 1 + 1 := by omega
  have cG : w3.cell? ⟨w2.heap.size, 0, none⟩ = some (.slice (some ⟨T, 0, none⟩) u.funcs.length u.funcs.length) := (hb3.cell (p := ⟨w2.heap.size, 0, none⟩) (by simp; omega)).trans ((blk (heap_step (heap_here w2 _))).1 0)
  have hb23 : Below w2.heap.size w2 w3 := (((Below.refl _ _).alloc (Nat.le_refl _) _).alloc (by simp) _).trans (hb3.mono (by simp; omega))
  have HB3 := hidI (HB1.out.trans (hb23.mono (by omega)))
  have HR3 := hidI (heap_below hb23 (k := w.heap.size + 1) hz HR.out)
  have HS3 := hidI (rows_below HS2.out hb23)
  have HRr := hidI hr3
  have hRz := hr3.lt
  have hz3 : w.heap.size + 1 < w3.heap.size := by omega
  clear hb3 hb23 hr3 hHr HS2 HR HB1 HG HF HW HH
  generalize hr : ringN u.funcs.length (tableU u.funcs) = r at *
  have HRe := hidI hr
  have hrl : Hid (∀ j, j < u.funcs.length → r j < u.funcs.length) := fun j hj => by rw [← hr]; exact (ringN_spec hj ((reachU u.funcs).refl j hj)).1
  clear hr
  go_wp2
  go_step3
  go_wp2
  go_loopw [9] (fun v W => ∃ m : Nat, m ≤ u.funcs.length ∧ W.ownsRow (w3.heap.size + 1 + 1 + 1) 3 1 v m ((intsN (orderN u.funcs.length (edgeU u.funcs) r m)).map (.int .i64)) ∧ OrdW W u.funcs.length 4 3 R (w3.heap.size + 1) (some ⟨T, 0, none⟩) u.funcs.length (w3.heap.size + 1 + 1) w2.heap.size w3.heap.size (fun x => (orderN u.funcs.length (edgeU u.funcs) r m).contains x) r ∧ Below w3.heap.size w3 W) (fun v _ => u.funcs.length - lenV v)
  case atStart =>
    refine ⟨0, by omega, World.ownsRow_nil _ _ _ _, ⟨(blk (heap_at (by simp))).1 0, ?_, (blk (heap_step (heap_step (heap_here w3 _)))).1 0, ?_, ?_⟩, by repeat (first | with_reducible exact Below.refl _ _ | with_reducible exact HB3.out | with_reducible refine Below.drew ?_ | with_reducible refine below_drewN ?_ _ | with_reducible refine Below.setCell ?_ ?_ _ | with_reducible refine Below.alloc ?_ ?_ _ | with_reducible exact HB2.out | with_reducible exact HB1.out | with_reducible refine Below.trans ?_ (Below.mono hb3 ?_) | with_reducible refine Below.trans ?_ (Below.mono hb5 ?_) | with_reducible refine Below.trans ?_ (Below.mono hb4 ?_) | omega | (simp; omega) | simp)⟩
    · exact (Below.cell (w := w3) (B := w3.heap.size) (by repeat (first | with_reducible exact Below.refl _ _ | with_reducible exact HB3.out | with_reducible refine Below.drew ?_ | with_reducible refine below_drewN ?_ _ | with_reducible refine Below.setCell ?_ ?_ _ | with_reducible refine Below.alloc ?_ ?_ _ | with_reducible exact HB2.out | with_reducible exact HB1.out | with_reducible refine Below.trans ?_ (Below.mono hb3 ?_) | with_reducible refine Below.trans ?_ (Below.mono hb5 ?_) | with_reducible refine Below.trans ?_ (Below.mono hb4 ?_) | omega | (simp; omega) | simp)) (p := ⟨w2.heap.size, 0, none⟩) hzg0).trans cG
    · have hM := World.rowIs_made (w3.alloc (.cells #[.slice (some ⟨R, 0, none⟩) u.funcs.length u.funcs.length] 39)) (.bool false) u.funcs.length 4
      have e : (w3.alloc (.cells #[.slice (some ⟨R, 0, none⟩) u.funcs.length u.funcs.length] 39)).heap.size = w3.heap.size + 1 := by simp
      rw [e] at hM
      refine (hM.alloc _).congr fun j _ => ?_
      simp [orderN]
    · exact rowIs_below HRr.out (by repeat (first | with_reducible exact Below.refl _ _ | with_reducible exact HB3.out | with_reducible refine Below.drew ?_ | with_reducible refine below_drewN ?_ _ | with_reducible refine Below.setCell ?_ ?_ _ | with_reducible refine Below.alloc ?_ ?_ _ | with_reducible exact HB2.out | with_reducible exact HB1.out | with_reducible refine Below.trans ?_ (Below.mono hb3 ?_) | with_reducible refine Below.trans ?_ (Below.mono hb5 ?_) | with_reducible refine Below.trans ?_ (Below.mono hb4 ?_) | omega | (simp; omega) | simp))
  case round =>
    obtain ⟨m, hm, hown, hO, hb⟩ := hrel
    obtain ⟨p, c, hp⟩ := own_slice hown
    subst hp
    have HO := hidI hO
    have HOw := hidI hown
    have HB := hidI hb
    have cGr := hO.cG
    have hzGr := lt_of_cell cGr
    have HL : Hid ((orderN u.funcs.length (edgeU u.funcs) r m).length = m) := by
      show _ = _
      rw [← HRe.out]
      exact (reachU u.funcs).order_len m hm
    clear hown hO hb
    by_cases hlt : m < u.funcs.length
    · obtain ⟨wo, hwo⟩ : ∃ wo : World, wo = wr := ⟨_, rfl⟩
      go_wp2
      subst hwo
      go_loopw [9, 33] (fun v i wq => ∃ k : Nat, k ≤ u.funcs.length ∧ v = .slice p m c ∧ i = .int .i64 k ∧ (∀ j, j < k → readyB u.funcs.length (edgeU u.funcs) r (fun x => (orderN u.funcs.length (edgeU u.funcs) r m).contains x) j = false) ∧ Below wo.heap.size wo wq) (fun _ i _ => u.funcs.length - (intOf i).toNat)
      case atStart => exact ⟨0, by omega, rfl, rfl, fun j h => by omega, Below.refl _ _⟩
      case round =>
        obtain ⟨k, hk, rfl, rfl, hV, hb⟩ := hrel
        have HV := hidI hV
        have HBq := hidI hb
        have HOq := hidI (HO.out.below hb)
        have HOwq := hidI (ownsRow_below' HOw.out hb)
        have hsq := hb.size
        clear hV hb
        by_cases hlt2 : k < u.funcs.length
        · have hrd := ready_any (gs := graphTo u.funcs u.funcs.length) (k := k) (by rw [graphTo_all]; exact hnf) (by rw [graphTo_all]; exact HOq.out) (by rw [graphTo_all]; exact hrl.out) (by rw [graphTo_all]; exact hlt2) (rows_below HS3.out (HB.out.trans (HBq.out.mono HB.out.size))) (graphTo_in _)
          rw [readyG_U _ _ _ hlt2] at hrd
          go_wp2_with fail
          refine hrd.mono ?_
          rintro e w5 ⟨rfl, hb5⟩
          have HB5 := hidI (HBq.out.trans (hb5.mono hsq))
          have HO5 := hidI (HOq.out.below hb5)
          have HOw5 := hidI (ownsRow_below' HOwq.out hb5)
          clear hb5
          cases hq : readyB u.funcs.length (edgeU u.funcs) r (fun x => (orderN u.funcs.length (edgeU u.funcs) r m).contains x) k
          · have HQ := hidI hq
            clear hq
            go_wp2_with fail
            refine ⟨⟨k + 1, by omega, rfl, by go_num, fun j hj => ?_, HB5.out⟩, by simp [intOf]; omega⟩
            by_cases hj2 : j < k
            · exact HV.out j hj2
            · obtain rfl : j = k := by omega
              exact HQ.out
          · have HQ : Hid (orderN u.funcs.length (edgeU u.funcs) r (m + 1) = orderN u.funcs.length (edgeU u.funcs) r m ++ [k]) := by
              show _ = _
              have hn : nextO u.funcs.length (edgeU u.funcs) r (orderN u.funcs.length (edgeU u.funcs) r m) = some k := find_hit hlt2 hq HV.out
              rw [orderN, hn]
            clear hq
            have c1 := HO5.out.cT
            have c2 := HO5.out.rT.cell hlt2
            have c3 := HO5.out.rT.frozen k
            have z1 := lt_of_cell c1
            have z2 := HO5.out.rT.lt
            have g0 : (0 : Int) ≤ (k : Int) := by omega
            have g1 : (k : Int) < u.funcs.length := by omega
            have hap : (Value.slice p m c).ownBlock = none ∨ (Value.slice p m c).ownBlock ≠ some (w3.heap.size + 1) := by
              cases hq : (Value.slice p m c).ownBlock with
              | none => exact .inl rfl
              | some g =>
                right
                intro e
                cases e
                have := (HOw5.out.lt _ hq).1
                omega
            have HOs : Hid ((w5.setCell ⟨w3.heap.size + 1, k, none⟩ (.bool true)).ownsRow (w3.heap.size + 1 + 1 + 1) 3 1 (.slice p m c) m ((intsN (orderN u.funcs.length (edgeU u.funcs) r m)).map (.int .i64))) := HOw5.out.kept (row := some (w3.heap.size + 1)) ⟨rfl, rfl, rfl, by simp [World.setCell], fun kk hk hne => Below.heap_setCell _ _ _ _ (fun e => hne (by rw [e]))⟩ hap
            have HOo := hidI (HO5.out.set (k := k) (by omega) (by omega) (by omega) (by omega))
            have hs5 : w3.heap.size + 1 + 1 < w5.heap.size := z1
            clear hap
            go_wp2_with (at_builtin; refine wpList_append_own_at _ rfl _ _ 39 rfl (w3.heap.size + 1 + 1 + 1) 3 i1 (.int .i64 0) 1 8 underInts6 k1 k2 k3 k4 rfl (by decide) _ _ _ rfl (HOs.out.alloc _) ⟨w5.heap.size, 0, none⟩ 1 1 [.int .i64 k] rfl rfl (cell_one_at _ _ _ _ (by simp)) (by simp [Value.oneCell']) ?_ ?_ ?_ ?_)
            · unfold maxLen; omega
            · omega
            · simp; omega
            intro v' w6 hown' hgrow _ _
            obtain ⟨g', cap', rfl⟩ := ownsRow_succ' hown'
            have hlo : ∀ g, (Value.slice p m c).ownBlock = some g → w3.heap.size + 1 + 1 + 1 ≤ g := fun g hg => (HOs.out.lt g hg).1
            have HO6 : Hid (OrdW w6 u.funcs.length 4 3 R (w3.heap.size + 1) (some ⟨T, 0, none⟩) u.funcs.length (w3.heap.size + 1 + 1) w2.heap.size w3.heap.size (fun x => (orderN u.funcs.length (edgeU u.funcs) r (m + 1)).contains x) r) := by
              have h1 := (HOo.out.below (w' := (w5.setCell ⟨w3.heap.size + 1, k, none⟩ (.bool true)).alloc (.cells #[.int .i64 k] 3)) (by repeat (first | with_reducible exact Below.refl _ _ | with_reducible exact HB3.out | with_reducible refine Below.drew ?_ | with_reducible refine below_drewN ?_ _ | with_reducible refine Below.setCell ?_ ?_ _ | with_reducible refine Below.alloc ?_ ?_ _ | with_reducible exact HB2.out | with_reducible exact HB1.out | with_reducible refine Below.trans ?_ (Below.mono hb3 ?_) | with_reducible refine Below.trans ?_ (Below.mono hb5 ?_) | with_reducible refine Below.trans ?_ (Below.mono hb4 ?_) | omega | (simp; omega) | simp))).grown hgrow (fun e => by have := hlo _ e; omega) (fun e => by have := hlo _ e; omega) (fun e => by have := hlo _ e; omega) (fun e => by have := hlo _ e; omega) (fun e => by have := hlo _ e; omega)
              refine h1.congr fun j => ?_
              rw [HQ.out]
              by_cases e : j = k
              · simp [e]
              · simp [e]
            have HB6 : Hid (Below w3.heap.size w3 w6) := (((HB.out.trans (HB5.out.mono HB.out.size)).setCell (by show _ ≤ w3.heap.size + 1; omega) _).alloc (by simp; omega) _).grown hgrow (by simp; omega) (fun g e => by have := hlo _ e; omega)
            have HO7 : Hid (w6.ownsRow (w3.heap.size + 1 + 1 + 1) 3 1 (.slice (some ⟨g', 0, none⟩) (m + 1) cap') (m + 1) ((intsN (orderN u.funcs.length (edgeU u.funcs) r (m + 1))).map (.int .i64))) := by
              show World.ownsRow _ _ _ _ _ _ _
              rw [HQ.out, intsN_snoc, List.map_append]
              exact hown'
            clear hown' hgrow
            go_wp2_with fail
            exact ⟨⟨m + 1, by omega, HO7.out, HO6.out, HB6.out⟩, by simp [lenV]; omega⟩
        · exfalso
          obtain rfl : k = u.funcs.length := by omega
          obtain ⟨j, hj⟩ := (reachU u.funcs).next_some (o := orderN u.funcs.length (edgeU u.funcs) r m) (by rw [HL.out]; exact hlt)
          rw [HRe.out] at hj
          obtain ⟨a, b, _⟩ := find_least hj
          rw [HV.out j a] at b
          cases b
    · obtain rfl : m = u.funcs.length := by omega
      have hRw := heap_below HB.out (k := w.heap.size + 1) hz3 HR3.out
      obtain ⟨hcw, hfw⟩ := blk hRw
      have hzw : w.heap.size + 1 < wr.heap.size := (Array.getElem?_eq_some_iff.1 hRw).1
      go_wp2_with fail
      rw [setCell_same hRw rfl, setCell_same hRw rfl, Exit.noGoto_ret]
      refine bodyPost_ret (v := .tuple #[.slice p u.funcs.length c, .agg #[.int .i64 0, .int .i64 0]]) ?_ rfl ⟨p, c, rfl, ?_, ?_⟩
      · simp [results, Tryd.results30, go_sem, hcw]
      · obtain ⟨p', c', e, hs⟩ := own_ints (xs := intsN (orderN u.funcs.length (edgeU u.funcs) r u.funcs.length)) (by rw [intsN_len]; exact HL.out) HOw.out (fun x hx => by
          unfold intsN at hx
          obtain ⟨k, hk, rfl⟩ := List.mem_map.1 hx
          have := (orderN_ok u.funcs.length (edgeU u.funcs) r u.funcs.length).low k hk
          unfold I64
          omega)
        simp only [Value.slice.injEq] at e
        obtain ⟨rfl, _, _⟩ := e
        unfold orderU
        rw [HRe.out]
        exact hs
      · exact HB3.out.trans (HB.out.mono (by omega))
end Go.Proofs.YteckkdmgkikeaaaDoor
