/-
  The contract of pure.Of.
-/
import Derived.Test.YtlalmbklhmpngaaDoorPurJ
import Derived.Test.YtlalmbklhmpngaaDoorPurK
import Derived.Test.YtlalmbklhmpngaaDoorRunX
import Derived.WalkKit
import Derived.WalkSpells
import Derived.WalkLawsBesides
namespace Go.Proofs.YtlalmbklhmpngaaDoor
open Go.RowKit

theorem gr_un_bad {u : UniL} {gp fp : Option Addr} {gc fc : Nat} {w : World} (hUn : UnA u gp fp w) (h : (chk u).1 ≠ 0) :
    Calls Tryd.prog 30 #[.agg #[.slice gp u.globals.length gc, .slice fp u.funcs.length fc]] w fun e w' => e = .returned (.tuple #[.slice none 0 0, .agg #[.int .i64 (chk u).1, .int .i64 (chk u).2]]) ∧ Below w.heap.size w w' :=
  gr_bad u gp fp gc fc w hUn.gl hUn.glo hUn.fl hUn.fns hUn.ways h

set_option maxRecDepth 100000 in
set_option maxHeartbeats 1000000 in
theorem of_bad {u : UniL} {gp fp : Option Addr} {gc fc : Nat} {w : World} (hUn : UnA u gp fp w) (h : (chk u).1 ≠ 0) :
    Calls Tryd.prog 26 #[.agg #[.slice gp u.globals.length gc, .slice fp u.funcs.length fc]] w fun e w' => e = .returned (.tuple #[.slice none 0 0, .agg #[.int .i64 (chk u).1, .int .i64 (chk u).2]]) ∧ Below w.heap.size w w' := by
  have HUn := hidI hUn
  have HH := hidI h
  have hne : ((chk u).1 == 0 && (chk u).2 == 0) = false := by simp [h]
  have hq : ∀ w, (binOp .neq 28 (.agg #[.int .i64 (chk u).1, .int .i64 (chk u).2]) (.agg #[.int .i64 0, .int .i64 0])).run Tryd.prog w = .ok (.bool true) w := fun w => by rw [run_neFault, hne]; rfl
  clear hUn h hne
  go_enter Tryd.func26, Tryd.ntmps26
  go_wp2_with fail
  refine (gr_un_bad (HUn.out.mono (by repeat (first | with_reducible exact Below.refl _ _ | with_reducible exact HB3.out | with_reducible refine Below.drew ?_ | with_reducible refine below_drewN ?_ _ | with_reducible refine Below.setCell ?_ ?_ _ | with_reducible refine Below.alloc ?_ ?_ _ | with_reducible exact HB2.out | with_reducible exact HB1.out | with_reducible refine Below.trans ?_ (Below.mono hb3 ?_) | with_reducible refine Below.trans ?_ (Below.mono hb5 ?_) | with_reducible refine Below.trans ?_ (Below.mono hb4 ?_) | omega | (simp; omega) | simp))) HH.out).mono ?_
  rintro e w2 ⟨rfl, hb2⟩
  have HB1 : Hid (Below w.heap.size w w2) := Below.trans (by repeat (first | with_reducible exact Below.refl _ _ | with_reducible exact HB3.out | with_reducible refine Below.drew ?_ | with_reducible refine below_drewN ?_ _ | with_reducible refine Below.setCell ?_ ?_ _ | with_reducible refine Below.alloc ?_ ?_ _ | with_reducible exact HB2.out | with_reducible exact HB1.out | with_reducible refine Below.trans ?_ (Below.mono hb3 ?_) | with_reducible refine Below.trans ?_ (Below.mono hb5 ?_) | with_reducible refine Below.trans ?_ (Below.mono hb4 ?_) | omega | (simp; omega) | simp)) (hb2.mono (by first | (simp; done) | (simp; omega)))
  have hR := heap_below hb2 (k := w.heap.size + 1) (by simp) (heap_at (w := w.alloc (.cells #[.slice gp u.globals.length gc, .slice fp u.funcs.length fc] 35)) (o := .cells #[.int .i64 0, .int .i64 0] 28) (by simp))
  obtain ⟨hcc, hcf⟩ := blk hR
  have hz : w.heap.size + 1 < w2.heap.size := by have := hb2.size; simp at this; omega
  clear hb2
  go_wp2_with fail
  have HX := hidI (res_one_drew hR)
  clear hR
  go_region
  all_goals go_wp2
  all_goals
    refine bodyPost_ret (v := .tuple #[.slice none 0 0, .agg #[.int .i64 (chk u).1, .int .i64 (chk u).2]]) ?_ rfl ⟨rfl, ?_⟩
    · have hx := HX.out
      simp [results, Tryd.results26, go_sem, hx]
    · repeat (first | with_reducible exact Below.refl _ _ | with_reducible exact HB3.out | with_reducible refine Below.drew ?_ | with_reducible refine below_drewN ?_ _ | with_reducible refine Below.setCell ?_ ?_ _ | with_reducible refine Below.alloc ?_ ?_ _ | with_reducible exact HB2.out | with_reducible exact HB1.out | with_reducible refine Below.trans ?_ (Below.mono hb3 ?_) | with_reducible refine Below.trans ?_ (Below.mono hb5 ?_) | with_reducible refine Below.trans ?_ (Below.mono hb4 ?_) | omega | (simp; omega) | simp)

theorem graphTo_get {xs : List FunL} {k : Nat} (h : k < (graphTo xs xs.length).length) (hk : k < xs.length) : (graphTo xs xs.length)[k] = rowTo xs[k] xs.length := by simp [graphTo]
/-- what a function does by itself, but for its ring -/
def soloB (u : UniL) (k i : Nat) : Bool := if i = 6 then roundB (fnU u k) else allB (fnU u k) (wordsU u) i
theorem solo_yes {u : UniL} {k : Nat} (h : ringB u k = true) : bits .or .i64 (maskI (soloB u k)) 64 = maskI (ownB u k) := by
  rw [← bit6, or_mask]
  refine maskI_congr fun i _ => ?_
  unfold soloB ownB
  by_cases e : i = 6
  · subst e; simp [bitB, h]
  · simp [bitB, e]
theorem solo_no {u : UniL} {k : Nat} (h : ringB u k = false) : maskI (soloB u k) = maskI (ownB u k) := by
  refine maskI_congr fun i _ => ?_
  unfold soloB ownB
  by_cases e : i = 6
  · subst e; simp [h]
  · simp [e]
theorem own_solo {u : UniL} {gp fp : Option Addr} {gc fc k : Nat} {w : World} (hUn : UnA u gp fp w) (hu : ChkOk u) (hk : k < u.funcs.length) :
    Calls Tryd.prog 55 #[.agg #[.slice gp u.globals.length gc, .slice fp u.funcs.length fc], .int .i64 k] w fun e w' => e = .returned (.int .i64 (maskI (soloB u k))) ∧ Below w.heap.size w w' :=
  own_any u gp fp gc fc k w hUn.gl hUn.glo hUn.fns hu hk
/-- what is still lacking, as it lies -/
def worthW (w : World) (g n : Nat) : Nat := sumTo (fun k => 127 - (intOf ((w.cell? ⟨g, k, none⟩).getD (.int .i64 0))).toNat) n
/-- the row of masks -/
def outRow (n : Nat) (m : Nat → Nat → Bool) : List Value := (List.range n).map fun k => .int .i64 (maskI (m k))
theorem outRow_get {n k : Nat} (m : Nat → Nat → Bool) (h : k < n) : (outRow n m)[k]? = some (.int .i64 (maskI (m k))) := by
  unfold outRow
  rw [List.getElem?_map, List.getElem?_range h]
  rfl
theorem outRow_set {n k x : Nat} (m : Nat → Nat → Bool) (_h : k < n) : (outRow n m).set k (.int .i64 (maskI fun i => m k i || m x i)) = outRow n (orM m k x) := by
  unfold outRow
  apply List.ext_getElem (by simp)
  intro j h1 h2
  have hj : j < n := by simpa using h2
  rw [List.getElem_set]
  by_cases e : k = j
  · subst e; simp [orM_at]
  · rw [if_neg e]
    simp [orM_ne _ (Ne.symm e)]
theorem worthW_eq {w : World} {B g n c : Nat} {m : Nat → Nat → Bool} {t : TypeId} (h : w.ownsRow B t 1 (.slice (some ⟨g, 0, none⟩) n c) n (outRow n m)) : worthW w g n = worth n m := by
  have : ∀ k, k ≤ n → sumTo (fun k => 127 - (intOf ((w.cell? ⟨g, k, none⟩).getD (.int .i64 0))).toNat) k = sumTo (fun k => 127 - maskN 7 (m k)) k := by
    intro k
    induction k with
    | zero => intro _; rfl
    | succ k ih =>
      intro hk
      show sumTo _ k + _ = sumTo _ k + _
      rw [ih (by omega)]
      show _ + (127 - (intOf ((w.cell? ⟨g, k, none⟩).getD (.int .i64 0))).toNat) = _ + (127 - maskN 7 (m k))
      rw [h.cellAt k (by omega), outRow_get m (by omega)]
      simp [intOf, maskI]
  exact this n (Nat.le_refl _)
def boolOf : Value → Bool
  | .bool b => b
  | _ => false

set_option maxRecDepth 100000 in
set_option maxHeartbeats 4000000 in
theorem of_ok {u : UniL} {gp fp : Option Addr} {gc fc : Nat} {w : World} (hUn : UnA u gp fp w) (h : (chk u).1 = 0) :
    Calls Tryd.prog 26 #[.agg #[.slice gp u.globals.length gc, .slice fp u.funcs.length fc]] w fun e w' => ∃ p c, e = .returned (.tuple #[.slice p u.funcs.length c, .agg #[.int .i64 0, .int .i64 0]]) ∧ SliceAt w' 1 IntR p (pureL u) ∧ Below w.heap.size w w' := by
  obtain ⟨i1, k1, k2, k3, k4⟩ := info_parts infoInt6
  have HUn := hidI hUn
  have HH := hidI h
  have HK := hidI (chk_ok h).2
  have hnf := (chk_ok h).2.nf
  obtain ⟨m0, _, hm0⟩ := mainI_get (chk_ok h).2
  have hn0 : 0 < u.funcs.length := by omega
  have hmk := run_make_row 38 3 i1 (.int .i64 0) underInts6 k1 k2 k3 rfl .i64 .i64 u.funcs.length (by rw [k4]; omega) (by omega)
  have hq : ∀ w, (binOp .neq 28 (.agg #[.int .i64 0, .int .i64 0]) (.agg #[.int .i64 0, .int .i64 0])).run Tryd.prog w = .ok (.bool false) w := fun w => by rw [run_neFault]; rfl
  clear hUn h
  go_enter Tryd.func26, Tryd.ntmps26
  go_wp2_with fail
  refine (gr_ok u gp fp gc fc _ HUn.out.gl (glosMono HUn.out.glo (by repeat (first | with_reducible exact Below.refl _ _ | with_reducible exact HB3.out | with_reducible refine Below.drew ?_ | with_reducible refine below_drewN ?_ _ | with_reducible refine Below.setCell ?_ ?_ _ | with_reducible refine Below.alloc ?_ ?_ _ | with_reducible exact HB2.out | with_reducible exact HB1.out | with_reducible refine Below.trans ?_ (Below.mono hb3 ?_) | with_reducible refine Below.trans ?_ (Below.mono hb5 ?_) | with_reducible refine Below.trans ?_ (Below.mono hb4 ?_) | omega | (simp; omega) | simp))) HUn.out.fl (funsMono HUn.out.fns (by repeat (first | with_reducible exact Below.refl _ _ | with_reducible exact HB3.out | with_reducible refine Below.drew ?_ | with_reducible refine below_drewN ?_ _ | with_reducible refine Below.setCell ?_ ?_ _ | with_reducible refine Below.alloc ?_ ?_ _ | with_reducible exact HB2.out | with_reducible exact HB1.out | with_reducible refine Below.trans ?_ (Below.mono hb3 ?_) | with_reducible refine Below.trans ?_ (Below.mono hb5 ?_) | with_reducible refine Below.trans ?_ (Below.mono hb4 ?_) | omega | (simp; omega) | simp))) (HUn.out.ways.below (by repeat (first | with_reducible exact Below.refl _ _ | with_reducible exact HB3.out | with_reducible refine Below.drew ?_ | with_reducible refine below_drewN ?_ _ | with_reducible refine Below.setCell ?_ ?_ _ | with_reducible refine Below.alloc ?_ ?_ _ | with_reducible exact HB2.out | with_reducible exact HB1.out | with_reducible refine Below.trans ?_ (Below.mono hb3 ?_) | with_reducible refine Below.trans ?_ (Below.mono hb5 ?_) | with_reducible refine Below.trans ?_ (Below.mono hb4 ?_) | omega | (simp; omega) | simp))) HH.out).mono ?_
  rintro e w2 ⟨TG, rfl, hS2, hb2⟩
  have HB1 : Hid (Below w.heap.size w w2) := Below.trans (by repeat (first | with_reducible exact Below.refl _ _ | with_reducible exact HB3.out | with_reducible refine Below.drew ?_ | with_reducible refine below_drewN ?_ _ | with_reducible refine Below.setCell ?_ ?_ _ | with_reducible refine Below.alloc ?_ ?_ _ | with_reducible exact HB2.out | with_reducible exact HB1.out | with_reducible refine Below.trans ?_ (Below.mono hb3 ?_) | with_reducible refine Below.trans ?_ (Below.mono hb5 ?_) | with_reducible refine Below.trans ?_ (Below.mono hb4 ?_) | omega | (simp; omega) | simp)) (hb2.mono (by first | (simp; done) | (simp; omega)))
  have hU2 := heap_below hb2 (k := w.heap.size) (by first | (simp; done) | (simp; omega)) (heap_step (heap_here w _))
  have hR2 := heap_below hb2 (k := w.heap.size + 1) (by simp) (heap_at (w := w.alloc (.cells #[.slice gp u.globals.length gc, .slice fp u.funcs.length fc] 35)) (o := .cells #[.int .i64 0, .int .i64 0] 28) (by simp))
  obtain ⟨hcu, _⟩ := blk hU2
  have z0 := (Array.getElem?_eq_some_iff.1 hU2).1
  have z1 := (Array.getElem?_eq_some_iff.1 hR2).1
  have HU2 := hidI hU2
  have HR2 := hidI hR2
  have HS2 := hidI hS2
  clear hb2 hS2 hU2 hR2
  go_wp2_with fail
  refine (rg_ok u gp fp gc fc _ HUn.out.gl (glosMono HUn.out.glo (HB1.out.trans (by repeat (first | with_reducible exact Below.refl _ _ | with_reducible exact HB3.out | with_reducible refine Below.drew ?_ | with_reducible refine below_drewN ?_ _ | with_reducible refine Below.setCell ?_ ?_ _ | with_reducible refine Below.alloc ?_ ?_ _ | with_reducible exact HB2.out | with_reducible exact HB1.out | with_reducible refine Below.trans ?_ (Below.mono hb3 ?_) | with_reducible refine Below.trans ?_ (Below.mono hb5 ?_) | with_reducible refine Below.trans ?_ (Below.mono hb4 ?_) | omega | (simp; omega) | simp)))) HUn.out.fl (funsMono HUn.out.fns (HB1.out.trans (by repeat (first | with_reducible exact Below.refl _ _ | with_reducible exact HB3.out | with_reducible refine Below.drew ?_ | with_reducible refine below_drewN ?_ _ | with_reducible refine Below.setCell ?_ ?_ _ | with_reducible refine Below.alloc ?_ ?_ _ | with_reducible exact HB2.out | with_reducible exact HB1.out | with_reducible refine Below.trans ?_ (Below.mono hb3 ?_) | with_reducible refine Below.trans ?_ (Below.mono hb5 ?_) | with_reducible refine Below.trans ?_ (Below.mono hb4 ?_) | omega | (simp; omega) | simp)))) (HUn.out.ways.below (HB1.out.trans (by repeat (first | with_reducible exact Below.refl _ _ | with_reducible exact HB3.out | with_reducible refine Below.drew ?_ | with_reducible refine below_drewN ?_ _ | with_reducible refine Below.setCell ?_ ?_ _ | with_reducible refine Below.alloc ?_ ?_ _ | with_reducible exact HB2.out | with_reducible exact HB1.out | with_reducible refine Below.trans ?_ (Below.mono hb3 ?_) | with_reducible refine Below.trans ?_ (Below.mono hb5 ?_) | with_reducible refine Below.trans ?_ (Below.mono hb4 ?_) | omega | (simp; omega) | simp)))) HH.out).mono ?_
  rintro e w3 ⟨TR, rfl, hS3, hb3⟩
  have hb23 : Below w2.heap.size w2 w3 := Below.trans (by repeat (first | with_reducible exact Below.refl _ _ | with_reducible exact HB3.out | with_reducible refine Below.drew ?_ | with_reducible refine below_drewN ?_ _ | with_reducible refine Below.setCell ?_ ?_ _ | with_reducible refine Below.alloc ?_ ?_ _ | with_reducible exact HB2.out | with_reducible exact HB1.out | with_reducible refine Below.trans ?_ (Below.mono hb3 ?_) | with_reducible refine Below.trans ?_ (Below.mono hb5 ?_) | with_reducible refine Below.trans ?_ (Below.mono hb4 ?_) | omega | (simp; omega) | simp)) (hb3.mono (by simp))
  have HB2 : Hid (Below w.heap.size w w3) := HB1.out.trans (hb23.mono HB1.out.size)
  have HB23 := hidI hb23
  have HS3 := hidI hS3
  have hz23 := hb23.size
  clear hb3 hS3 hb23 hcu
  go_wp2_with fail
  obtain ⟨W1, hW1⟩ : ∃ W1, W1 = ((w3.alloc (.cells #[.slice (some ⟨TR, 0, none⟩) u.funcs.length u.funcs.length] 38)).alloc (.cells #[.int .i64 0, .int .i64 0] 28)).alloc (.cells (madeCells #[.int .i64 0] u.funcs.length) 3) := ⟨_, rfl⟩
  rw [← hW1]
  have hB31 : Below w3.heap.size w3 W1 := by rw [hW1]; repeat (first | with_reducible exact Below.refl _ _ | with_reducible exact HB3.out | with_reducible refine Below.drew ?_ | with_reducible refine below_drewN ?_ _ | with_reducible refine Below.setCell ?_ ?_ _ | with_reducible refine Below.alloc ?_ ?_ _ | with_reducible exact HB2.out | with_reducible exact HB1.out | with_reducible refine Below.trans ?_ (Below.mono hb3 ?_) | with_reducible refine Below.trans ?_ (Below.mono hb5 ?_) | with_reducible refine Below.trans ?_ (Below.mono hb4 ?_) | omega | (simp; omega) | simp)
  have hs1 : W1.heap.size = w3.heap.size + 1 + 1 + 1 := by rw [hW1]; simp
  have hM1 : W1.rowIs (w3.heap.size + 1 + 1) 3 u.funcs.length (fun _ => .int .i64 0) := by
    have hM := World.rowIs_made ((w3.alloc (.cells #[.slice (some ⟨TR, 0, none⟩) u.funcs.length u.funcs.length] 38)).alloc (.cells #[.int .i64 0, .int .i64 0] 28)) (.int .i64 0) u.funcs.length 3
    have e : ((w3.alloc (.cells #[.slice (some ⟨TR, 0, none⟩) u.funcs.length u.funcs.length] 38)).alloc (.cells #[.int .i64 0, .int .i64 0] 28)).heap.size = w3.heap.size + 1 + 1 := by simp
    rw [e] at hM
    rw [hW1]
    exact hM
  have hC1 : W1.heap[w3.heap.size]? = some (.cells #[.slice (some ⟨TR, 0, none⟩) u.funcs.length u.funcs.length] 38 (0, 0)) := by rw [hW1]; exact heap_step (heap_step (heap_here _ _))
  have HB31 := hidI hB31
  have HM1 := hidI hM1
  have HC1 := hidI hC1
  clear hW1 hB31 hM1 hC1
  go_loopw [35] (fun i wr => ∃ k : Nat, k ≤ u.funcs.length ∧ i = .int .i64 k ∧ wr.rowIs (w3.heap.size + 1 + 1) 3 u.funcs.length (fun j => .int .i64 (if j < k then maskI (ownB u j) else 0)) ∧ W1.grownBy wr (some (w3.heap.size + 1 + 1))) (fun i _ => u.funcs.length - (intOf i).toNat)
  case atStart => exact ⟨0, by omega, rfl, HM1.out.congr fun j _ => by simp, ⟨rfl, rfl, rfl, Nat.le_refl _, fun _ _ _ => rfl⟩⟩
  case round =>
    obtain ⟨k, hk, rfl, hrow, hg⟩ := hrel
    have hgs := hg.size
    have HBr : Hid (Below w.heap.size w wr) := hidI ((HB2.out.trans (HB31.out.mono HB2.out.size)).grown hg (by have := HB2.out.size; omega) (fun b e => by cases e; have := HB2.out.size; omega))
    have HBr3 : Hid (Below w3.heap.size w3 wr) := hidI (HB31.out.grown hg (by omega) (fun b e => by cases e; omega))
    have hcU := (HBr3.out.block w.heap.size (by omega)).trans ((HB23.out.block w.heap.size z0).trans HU2.out)
    obtain ⟨hcu, hfu⟩ := blk hcU
    have zu := (Array.getElem?_eq_some_iff.1 hcU).1
    have hC := (hg.block w3.heap.size (by omega) (by simp; omega)).trans HC1.out
    have zC := (Array.getElem?_eq_some_iff.1 hC).1
    have zR := hrow.lt
    have HRow := hidI hrow
    have HG := hidI hg
    have HC := hidI hC
    clear hrow hg hcU hC
    by_cases hlt : k < u.funcs.length
    · have HOw := hidI fun (W : World) (hb : Below wr.heap.size wr W) => own_solo (gc := gc) (fc := fc) (HUn.out.mono (HBr.out.trans (hb.mono HBr.out.size))) HK.out hlt
      have gk0 : (0 : Int) ≤ (k : Int) := by omega
      have gk1 : (k : Int) < u.funcs.length := by omega
      go_wp2_with fail
      (go_region_with (go_at_call 55; refine (HOw.out _ (by repeat (first | with_reducible exact Below.refl _ _ | with_reducible exact HB3.out | with_reducible refine Below.drew ?_ | with_reducible refine below_drewN ?_ _ | with_reducible refine Below.setCell ?_ ?_ _ | with_reducible refine Below.alloc ?_ ?_ _ | with_reducible exact HB2.out | with_reducible exact HB1.out | with_reducible refine Below.trans ?_ (Below.mono hb3 ?_) | with_reducible refine Below.trans ?_ (Below.mono hb5 ?_) | with_reducible refine Below.trans ?_ (Below.mono hb4 ?_) | omega | (simp; omega) | simp))).mono ?_; rintro e w5 ⟨rfl, hb5⟩; have HB5 : Hid (Below wr.heap.size wr w5) := hidI (Below.trans (by repeat (first | with_reducible exact Below.refl _ _ | with_reducible exact HB3.out | with_reducible refine Below.drew ?_ | with_reducible refine below_drewN ?_ _ | with_reducible refine Below.setCell ?_ ?_ _ | with_reducible refine Below.alloc ?_ ?_ _ | with_reducible exact HB2.out | with_reducible exact HB1.out | with_reducible refine Below.trans ?_ (Below.mono hb3 ?_) | with_reducible refine Below.trans ?_ (Below.mono hb5 ?_) | with_reducible refine Below.trans ?_ (Below.mono hb4 ?_) | omega | (simp; omega) | simp)) (hb5.mono (by first | (simp; done) | (simp; omega)))); have h9 := heap_below hb5 (k := wr.heap.size) (by first | (simp; done) | (simp; omega)) (heap_at (w := wr) (o := .cells #[.int .i64 k] 3) rfl); obtain ⟨h9c, h9f⟩ := blk h9; have z9 := (Array.getElem?_eq_some_iff.1 h9).1; have H9 := hidI h9; have hrow5 := HRow.out.of_block (HB5.out.block _ zR); have cr5 := hrow5.cell hlt; have fr5 := hrow5.frozen k; have zr5 := hrow5.lt; have HR5 := hidI hrow5; clear hb5 h9 hrow5))
      all_goals
        obtain ⟨W6, hW6⟩ : ∃ W6, W6 = w5.setCell ⟨w3.heap.size + 1 + 1, k, none⟩ (.int .i64 (maskI (soloB u k))) := ⟨_, rfl⟩
        rw [← hW6]
        have hr6 := HR5.out.set k (.int .i64 (maskI (soloB u k)))
        rw [← hW6] at hr6
        have hg6 : W1.grownBy W6 (some (w3.heap.size + 1 + 1)) := by rw [hW6]; exact grow_set (grow_below HG.out HB5.out) _ _
        have h96 : W6.heap[wr.heap.size]? = some (.cells #[.int .i64 k] 3 (0, 0)) := by rw [hW6]; exact (set_off (by omega)).trans H9.out
        have HBr6 : Hid (Below w3.heap.size w3 W6) := hidI (HB31.out.grown hg6 (by omega) (fun b e => by cases e; omega))
        have HB06 : Hid (Below w.heap.size w W6) := hidI (HB2.out.trans (HBr6.out.mono HB2.out.size))
        have hC6 := (hg6.block w3.heap.size (by omega) (by simp; omega)).trans HC1.out
        have hRing : RingW W6 u.funcs.length TR w3.heap.size wr.heap.size k u.funcs.length (ringN u.funcs.length (tableU u.funcs)) := by
          refine ⟨((blk hC6).1 0).trans rfl, ((blk h96).1 0).trans rfl, fun j hj => ?_⟩
          obtain ⟨b, o, hp, hc, _⟩ := intGet HS3.out HBr6.out (i := j) (by rw [ringsL_len]; exact hj)
          cases hp
          rw [ringsL_get, Nat.zero_add] at hc
          exact hc
        obtain ⟨bq, oq, q, d, hp, eq0, hql, hqs⟩ := rowGet HS2.out (HB23.out.trans (HBr6.out.mono hz23)) (i := k) (by rw [graphTo_all]; exact hlt)
        cases hp
        rw [graphTo_get _ hlt, ← fnU_get hlt] at eq0 hql hqs
        rw [Nat.zero_add] at eq0
        have zq := lt_of_cell eq0
        have hcon := containsRing_any hnf hRing hlt (rowTo (fnU u k) u.funcs.length) q d (by omega) hqs (fun x hx => (rowTo_iff.1 hx).1)
        rw [show (rowTo (fnU u k) u.funcs.length).any (sameB (ringN u.funcs.length (tableU u.funcs)) k) = ringB u k from ring_any hlt] at hcon
        obtain ⟨h9c6, h9f6⟩ := blk h96
        have z96 := (Array.getElem?_eq_some_iff.1 h96).1
        have zR6 := hr6.lt
        have HR6 := hidI hr6
        have HG6 := hidI hg6
        have HCon := hidI hcon
        clear hW6 hr6 hg6 h96 hC6 hRing hqs hcon h9c h9f cr5 fr5
        go_wp2_with fail
        refine HCon.out.mono ?_
        rintro e w7 ⟨rfl, hb7⟩
        have hr7 := HR6.out.of_block (hb7.block _ zR6)
        have hg7 := grow_below HG6.out hb7
        have c97 := (hb7.cell (p := ⟨wr.heap.size, 0, none⟩) z96).trans ((h9c6 0).trans rfl)
        have z97 := lt_of_cell c97
        have cr7 := hr7.cell hlt
        have fr7 := hr7.frozen k
        have zr7 := hr7.lt
        rw [if_pos rfl] at cr7
        have HR7 := hidI hr7
        have HG7 := hidI hg7
        clear hb7 hr7 hg7 h9c6 h9f6 eq0
        cases hrb : ringB u k with
        | true =>
          have HY := hidI (solo_yes hrb)
          clear hrb
          go_wp2_with fail
          refine ⟨⟨k + 1, by omega, by go_num, ?_, grow_set HG7.out _ _⟩, by simp [intOf]; omega⟩
          refine (HR7.out.set k _).congr fun j hj => ?_
          by_cases e : j = k
          · subst e
            rw [if_pos rfl, if_pos (by omega), HY.out]
          · rw [if_neg e, if_neg e]
            by_cases e2 : j < k
            · rw [if_pos e2, if_pos (by omega)]
            · rw [if_neg e2, if_neg (by omega)]
        | false =>
          have HY := hidI (solo_no hrb)
          clear hrb
          go_wp2_with fail
          refine ⟨⟨k + 1, by omega, by go_num, ?_, HG7.out⟩, by simp [intOf]; omega⟩
          refine HR7.out.congr fun j hj => ?_
          by_cases e : j = k
          · subst e
            rw [if_pos rfl, if_pos (by omega), HY.out]
          · rw [if_neg e]
            by_cases e2 : j < k
            · rw [if_pos e2, if_pos (by omega)]
            · rw [if_neg e2, if_neg (by omega)]
    · obtain rfl : k = u.funcs.length := by omega
      have hlen : ((List.range u.funcs.length).map fun k => maskI (ownB u k)).length = u.funcs.length := by simp
      have hcl := clone_any ((List.range u.funcs.length).map fun k => maskI (ownB u k)) (w3.heap.size + 1 + 1) u.funcs.length wr (by omega) (by omega) (fun j hj => by
        have hj2 : j < u.funcs.length := by omega
        have h1 := HRow.out.cell hj2
        rw [if_pos hj2] at h1
        simpa using h1)
      rw [hlen, List.map_map] at hcl
      have HCl := hidI hcl
      have hr6 := HR2.out
      have hcF := (HBr3.out.block (w.heap.size + 1) (by omega)).trans ((HB23.out.block (w.heap.size + 1) z1).trans HR2.out)
      have HF0 := hidI hcF
      clear hcl hr6 hcF
      go_wp2_with fail
      refine HCl.out.mono ?_
      rintro e w5 ⟨p, c', rfl, hown, hb5⟩
      obtain ⟨g, rfl⟩ : ∃ g, p = some ⟨g, 0, none⟩ := by
        rcases hown.2 with ⟨h0, _⟩ | ⟨g, cap, cur, hv, _⟩
        · injection h0 with _ h1 _; omega
        · injection hv with h1 _ _; exact ⟨g, h1⟩
      obtain ⟨B0, hB0⟩ : ∃ B0 : Nat, B0 = wr.heap.size := ⟨_, rfl⟩
      rw [← hB0] at hown
      have hgl := hown.lt g rfl
      have HB5 : Hid (Below w.heap.size w w5) := hidI (HBr.out.trans (hb5.mono HBr.out.size))
      have HB53 : Hid (Below w2.heap.size w2 w5) := hidI (HB23.out.trans ((HBr3.out.trans (hb5.mono HBr3.out.size)).mono hz23))
      have hF5 := (hb5.block (w.heap.size + 1) (by have := HBr3.out.size; omega)).trans HF0.out
      have hws5 := hb5.size
      have HOwn : Hid (w5.ownsRow B0 3 1 (.slice (some ⟨g, 0, none⟩) u.funcs.length c') u.funcs.length (outRow u.funcs.length (ownB u))) := hidI hown
      have HF5 := hidI hF5
      clear hown hb5 hF5 hcu hfu
      go_wp2_with fail
      go_loopw [11] (fun a wo => ∃ (m : Nat → Nat → Bool) (b : Bool), a = .bool b ∧ wo.ownsRow B0 3 1 (.slice (some ⟨g, 0, none⟩) u.funcs.length c') u.funcs.length (outRow u.funcs.length m) ∧ w5.grownBy wo (some g) ∧ Masks u m ∧ (b = false → ∀ k, k < u.funcs.length → maskI (m k) = maskI (maskB u k))) (fun a wo => if boolOf a = true then worthW wo g u.funcs.length + 1 else 0)
      case atStart => exact ⟨ownB u, true, rfl, HOwn.out, grown_refl _ _, own_masks u, (fun h => by cases h)⟩
      case round =>
        obtain ⟨m, b, rfl, hO, hgo, hM, hD⟩ := hrel
        obtain ⟨wo, hwo⟩ : ∃ wo, wo = wr := ⟨_, rfl⟩
        rw [← hwo]
        rw [← hwo] at hO hgo
        have HBo : Hid (Below w.heap.size w wo) := hidI (HB5.out.grown hgo HB5.out.size (fun b e => by cases e; have := HBr.out.size; omega))
        have HO := hidI hO
        have HGo := hidI hgo
        have HM := hidI hM
        have HD := hidI hD
        clear hO hgo hM hD hwo
        cases b with
        | false =>
          have hF6 := (HGo.out.block (w.heap.size + 1) (by have := HBr3.out.size; omega) (by have := HBr3.out.size; simp; omega)).trans HF5.out
          obtain ⟨f6c, f6f⟩ := blk hF6
          have z6 := (Array.getElem?_eq_some_iff.1 hF6).1
          have HF6 := hidI hF6
          clear hF6
          go_wp2_with fail
          rw [setCell_same HF6.out rfl, setCell_same HF6.out rfl]
          refine bodyPost_ret (v := .tuple #[.slice (some ⟨g, 0, none⟩) u.funcs.length c', .agg #[.int .i64 0, .int .i64 0]]) ?_ rfl ⟨some ⟨g, 0, none⟩, ⟨c', rfl⟩, ?_, HBo.out⟩
          · simp [results, Tryd.results26, go_sem, f6c]
          · have e : outRow u.funcs.length m = (pureL u).map (.int .i64) := by
              unfold outRow pureL
              rw [List.map_map]
              refine List.map_congr_left fun k hk => ?_
              show Value.int .i64 (maskI (m k)) = Value.int .i64 (maskI (maskB u k))
              rw [HD.out (by trivial) k (List.mem_range.1 hk)]
            have h1 := HO.out
            rw [e] at h1
            obtain ⟨p2, c2, e2, h2⟩ := own_ints (pureL_len u) h1 (fun x hx => by
              obtain ⟨i, hi, rfl⟩ := List.getElem_of_mem hx
              rw [pureL_get]
              have := maskI_lt (maskB u i)
              unfold I64
              omega)
            injection e2 with e3 _ _
            rw [e3]
            exact h2
        | true =>
          have HWo := hidI (worthW_eq HO.out)
          go_wp2_with fail
          go_loopw [11, 62] (fun a i wq => ∃ (m1 : Nat → Nat → Bool) (b : Bool) (k : Nat), k ≤ u.funcs.length ∧ a = .bool b ∧ i = .int .i64 k ∧ wq.ownsRow B0 3 1 (.slice (some ⟨g, 0, none⟩) u.funcs.length c') u.funcs.length (outRow u.funcs.length m1) ∧ w5.grownBy wq (some g) ∧ Pass u m m1 b k 0) (fun _ i _ => u.funcs.length - (intOf i).toNat)
          case atStart => exact ⟨m, false, 0, by omega, rfl, rfl, HO.out, HGo.out, .start HM.out⟩
          case round =>
            obtain ⟨m1, b, k, hk, rfl, rfl, hO1, hg1, hP⟩ := hrel
            obtain ⟨wq, hwq⟩ : ∃ wq, wq = wr := ⟨_, rfl⟩
            rw [← hwq]
            rw [← hwq] at hO1 hg1
            have HBq : Hid (Below w2.heap.size w2 wq) := hidI (HB53.out.grown hg1 HB53.out.size (fun b e => by cases e; have := HBr3.out.size; omega))
            have HO1 := hidI hO1
            have HG1 := hidI hg1
            have HP := hidI hP
            clear hO1 hg1 hP hwq
            by_cases hlt : k < u.funcs.length
            · obtain ⟨bq, oq, q, d, hp, eq0, hql, hqs⟩ := rowGet HS2.out (Below.refl _ _) (i := k) (by rw [graphTo_all]; exact hlt)
              cases hp
              rw [graphTo_get _ hlt, ← fnU_get hlt] at eq0 hql hqs
              rw [Nat.zero_add] at eq0
              have zq2 := lt_of_cell eq0
              replace eq0 := (HBq.out.cell (p := ⟨TG, k, none⟩) zq2).trans eq0
              have zq := lt_of_cell eq0
              have gk0 : (0 : Int) ≤ (k : Int) := by omega
              have gk1 : (k : Int) < u.funcs.length := by omega
              have HQs := hidI hqs
              clear hqs
              go_wp2_with fail
              go_loopw [11, 69] (fun a i wz => ∃ (m2 : Nat → Nat → Bool) (b : Bool) (j : Nat), j ≤ (rowTo (fnU u k) u.funcs.length).length ∧ a = .bool b ∧ i = .int .i64 j ∧ wz.ownsRow B0 3 1 (.slice (some ⟨g, 0, none⟩) u.funcs.length c') u.funcs.length (outRow u.funcs.length m2) ∧ w5.grownBy wz (some g) ∧ Below w2.heap.size wq wz ∧ Pass u m m2 b k j) (fun _ i _ => (rowTo (fnU u k) u.funcs.length).length - (intOf i).toNat)
              case atStart => exact ⟨m1, b, 0, by omega, rfl, rfl, HO1.out, HG1.out, Below.refl _ _, HP.out⟩
              case round =>
                obtain ⟨m2, b2, j, hj, rfl, rfl, hO2, hg2, hbz, hP⟩ := hrel
                obtain ⟨wz, hwz⟩ : ∃ wz, wz = wr := ⟨_, rfl⟩
                rw [← hwz]
                rw [← hwz] at hO2 hg2 hbz
                have HO2 := hidI hO2
                have HG2 := hidI hg2
                have HP2 := hidI hP
                have HBz := hidI hbz
                clear hwz
                by_cases hjl : j < (rowTo (fnU u k) u.funcs.length).length
                · obtain ⟨b4, o4, hp4, f0, _⟩ := intGet HQs.out (HBq.out.trans hbz) hjl
                  subst hp4
                  obtain ⟨⟨hx0, hx1⟩, hxc⟩ := rowTo_iff.1 (List.getElem_mem hjl)
                  obtain ⟨x, hx⟩ : ∃ x : Nat, (rowTo (fnU u k) u.funcs.length)[j] = (x : Int) := ⟨(rowTo (fnU u k) u.funcs.length)[j].toNat, by omega⟩
                  have hxr : (rowTo (fnU u k) u.funcs.length)[j]? = some (x : Int) := by rw [List.getElem?_eq_getElem hjl, hx]
                  rw [hx] at f0 hx0 hx1 hxc
                  have hxn : x < u.funcs.length := by omega
                  have ck := hO2.cellAt k (by omega)
                  rw [outRow_get m2 hlt] at ck
                  have cx := hO2.cellAt x (by omega)
                  rw [outRow_get m2 hxn] at cx
                  have fk := hO2.frozenAt k
                  have zg := lt_of_cell ck
                  have zf := lt_of_cell f0
                  have HXr := hidI hxr
                  have HXc := hidI hxc
                  have HXn := hidI hxn
                  have hor : bits .or .i64 (maskI (m2 k)) (maskI (m2 x)) = maskI fun i => m2 k i || m2 x i := or_mask _ _
                  have HOr := hidI hor
                  clear hO2 hg2 hbz hP hxr hxc hx hor
                  by_cases hne : maskI (fun i => m2 k i || m2 x i) = maskI (m2 k)
                  · have hq2 : (bits .or .i64 (maskI (m2 k)) (maskI (m2 x)) != maskI (m2 k)) = false := by rw [HOr.out, hne]; simp
                    have HT := hidI (takes_of hne)
                    clear hne
                    go_wp2_with fail
                    go_quiet (fail)
                    go_wp2_with fail
                    exact ⟨⟨m2, b2, j + 1, by omega, rfl, by go_num, own_block HO2.out (fun _ _ => rfl), grow_below HG2.out (below_drewN (Below.refl _ _) nq), below_drewN HBz.out nq, HP2.out.next HXr.out HT.out⟩, by simp [intOf]; omega⟩
                  · have hq2 : (bits .or .i64 (maskI (m2 k)) (maskI (m2 x)) != maskI (m2 k)) = true := by rw [HOr.out]; simpa using hne
                    have HNe := hidI hne
                    clear hne
                    go_wp2_with fail
                    go_quiet (fail)
                    have HO3 : Hid ((wz.drewN nq).ownsRow B0 3 1 (.slice (some ⟨g, 0, none⟩) u.funcs.length c') u.funcs.length (outRow u.funcs.length m2)) := hidI (own_block HO2.out (fun _ _ => rfl))
                    have HG3 := hidI (grow_below HG2.out (below_drewN (Below.refl _ wz) nq))
                    have HB3z := hidI (below_drewN HBz.out nq)
                    have c3k : (wz.drewN nq).cell? ⟨g, k, none⟩ = some (.int .i64 (maskI (m2 k))) := ck
                    have c3x : (wz.drewN nq).cell? ⟨g, x, none⟩ = some (.int .i64 (maskI (m2 x))) := cx
                    have f3k : (wz.drewN nq).frozen? ⟨g, k, none⟩ = false := fk
                    have z3g : g < (wz.drewN nq).heap.size := zg
                    generalize wz.drewN nq = wy at *
                    clear ck cx fk
                    go_wp2_with fail
                    go_region
                    all_goals
                      have hst := HO3.out.stored k (.int .i64 (maskI fun i => m2 k i || m2 x i))
                      rw [outRow_set m2 hlt] at hst
                      have hgz := (grow_set HG3.out k (.int .i64 (maskI fun i => m2 k i || m2 x i)))
                      have hbz2 : Below w2.heap.size wq (wy.setCell ⟨g, k, none⟩ (.int .i64 (maskI fun i => m2 k i || m2 x i))) := HB3z.out.setCell (show w2.heap.size ≤ g by have := HBr3.out.size; omega) _
                      have HSt := hidI hst
                      have HGz := hidI hgz
                      have HBz2 := hidI hbz2
                      have HP3 := hidI (HP2.out.turn hlt hxn HXc.out HNe.out)
                      clear hst hgz hbz2 c3k c3x f3k
                      rw [HOr.out]
                      generalize wy.setCell ⟨g, k, none⟩ (.int .i64 (maskI fun i => m2 k i || m2 x i)) = wx at *
                      go_wp2_with fail
                      exact ⟨⟨orM m2 k x, true, j + 1, by omega, rfl, by go_num, own_block HSt.out.1 (fun _ _ => rfl), grow_below HGz.out (Below.refl _ wx).drew, HBz2.out.drew, HP3.out⟩, by simp [intOf]; omega⟩
                · obtain rfl : j = (rowTo (fnU u k) u.funcs.length).length := by omega
                  go_wp2_with fail
                  exact ⟨⟨m2, b2, k + 1, by omega, rfl, by go_num, HO2.out, HG2.out, HP2.out.row (Nat.le_refl _)⟩, by simp [intOf]; omega⟩
            · obtain rfl : k = u.funcs.length := by omega
              go_wp2_with fail
              refine ⟨⟨m1, b, rfl, HO1.out, HG1.out, HP.out.masks, fun hb k hk => ?_⟩, ?_⟩
              · subst hb
                exact HP.out.fin hk
              · rw [HWo.out]
                cases b with
                | false => simp [boolOf]
                | true =>
                  have h1 := HP.out.less rfl
                  rw [← worthW_eq HO1.out] at h1
                  simp only [boolOf, if_true]
                  omega
end Go.Proofs.YtlalmbklhmpngaaDoor
