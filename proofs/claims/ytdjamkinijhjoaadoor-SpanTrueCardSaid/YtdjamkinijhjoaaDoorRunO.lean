/-
  How run.Counts lays a run in memory, function by function.
-/
import Derived.WalkKit
import Derived.WalkSpells
import Derived.WalkLawsBesides
import Derived.Test.YtdjamkinijhjoaaDoorJRunB
import Derived.Test.YtdjamkinijhjoaaDoorJRunN
namespace Go.Proofs.YtdjamkinijhjoaaDoor
open Go.RowKit

theorem own_block {w w' : World} {B : Nat} {e : TypeId} {z : Nat} {v : Value} {n : Nat} {xs : List Value} (h : w.ownsRow B e z v n xs) (hg : ∀ g, v.ownBlock = some g → w'.heap[g]? = w.heap[g]?) : w'.ownsRow B e z v n xs := by
 refine ⟨h.1, ?_⟩
 rcases h.2 with h0 | ⟨g, cap, cur, hv, h1, h2, h3⟩
 ·exact .inl h0
 ·exact .inr ⟨g, cap, cur, hv, h1, (hg g (by rw [hv]; rfl)).trans h2, h3⟩
theorem own_low {w : World} {B B' : Nat} {e : TypeId} {z : Nat} {v : Value} {n : Nat} {xs : List Value} (h : w.ownsRow B e z v n xs) (hb : B' ≤ B) : w.ownsRow B' e z v n xs := by
 refine ⟨h.1, ?_⟩
 rcases h.2 with h0 | ⟨g, cap, cur, hv, h1, h2, h3⟩
 ·exact .inl h0
 ·exact .inr ⟨g, cap, cur, hv, Nat.le_trans hb h1, h2, h3⟩
theorem cell_block {w w' : World} {b o : Nat} (h : w'.heap[b]? = w.heap[b]?) : w'.cell? ⟨b, o, none⟩ = w.cell? ⟨b, o, none⟩ := World.cell?_of_block (w := w) h

def upd {α : Type} (f : Nat → α) (k : Nat) (x : α) : Nat → α := fun j => if j = k then x else f j
theorem upd_at {α : Type} (f : Nat → α) (k : Nat) (x : α) : upd f k x k = x := by simp [upd]
theorem upd_ne {α : Type} (f : Nat → α) {k j : Nat} (x : α) (h : j ≠ k) : upd f k x j = f j := by simp [upd, h]
def rowsV (u : UniL) (A : Nat → Nat) (k : Nat) : List Value := (List.range k).map fun j => .slice (some ⟨A j, 0, none⟩) (fnU u j).blocks.length (fnU u j).blocks.length
theorem rowsV_succ (u : UniL) (A : Nat → Nat) (k x : Nat) : rowsV u (upd A k x) (k + 1) = rowsV u A k ++ [.slice (some ⟨x, 0, none⟩) (fnU u k).blocks.length (fnU u k).blocks.length] := by
 unfold rowsV
 rw [List.range_succ, List.map_append]
 congr 1
 ·refine List.map_congr_left fun j hj => ?_
  rw [upd_ne _ _ (by have := List.mem_range.1 hj; omega)]
 ·simp [upd_at]

theorem infoRows9 : (Tryd.prog.info? 94).map (fun i => (i.zero, i.size, i.bytes)) = some (some (.slice none 0 0), 1, 24) := by kernel_rfl
theorem infoInts8 : (Tryd.prog.info? 46).map (fun i => (i.zero, i.size, i.bytes)) = some (some (.slice none 0 0), 1, 24) := by kernel_rfl
theorem underRows9 : Tryd.prog.underlying 94 = some (.slice 46) := by kernel_rfl
theorem underRowss9 : Tryd.prog.underlying 145 = some (.slice 94) := by kernel_rfl
structure SetR (w0 : World) (W : Nat) (u : UniL) (gp fp : Option Addr) (gc fc : Nat) (mv iv : Value) (w : World) (ro : Nat → Nat) (k n : Nat) (av cv : Value) (A : Nat → Nat) (v : Nat → Nat → Value) (C : Nat → Nat) : Prop where
 below : Below w0.heap.size w0 w
 head : w.heap[W]? = some (.cells (setC u gp fp gc fc av mv iv cv) 148 (0, 0))
 roW : ro W = 1
 lowW : w0.heap.size ≤ W
 memO : w.ownsRow w0.heap.size 3 1 mv (memU u).length ((memU u).map (.int .i64))
 roM : ∀ g, mv.ownBlock = some g → ro g = 2
 ahdO : w.ownsRow w0.heap.size 94 1 av k (rowsV u A k)
 roA : ∀ g, av.ownBlock = some g → ro g = 100
 cntO : w.ownsRow w0.heap.size 46 1 cv n (rowsV u C n)
 roD : ∀ g, cv.ownBlock = some g → ro g = 102
 ra : ∀ j, j < k → A j < w.heap.size ∧ ro (A j) = 0
 row : ∀ j b, j < k → b < (fnU u j).blocks.length → w.cell? ⟨A j, b, none⟩ = some (v j b)
 own : ∀ j b, j < k → b < (fnU u j).blocks.length → w.ownsRow w0.heap.size 3 1 (v j b) (rowOf (waysL (fnU u j)) b).length ((rowOf (waysL (fnU u j)) b).map fun i : Nat => .int .i64 (i : Int))
 rv : ∀ j b, j < k → b < (fnU u j).blocks.length → ∀ g, (v j b).ownBlock = some g → ro g = 0
 cntR : ∀ j, j < n → w.rowIs (C j) 3 (fnU u j).blocks.length (fun _ => .int .i64 0)
 roC : ∀ j, j < n → ro (C j) = 6 + 2 * j
 lowC : ∀ j, j < n → w0.heap.size ≤ C j

theorem SetR.old {w0 : World} {W : Nat} {u : UniL} {gp fp : Option Addr} {gc fc : Nat} {mv iv : Value} {w : World} {ro : Nat → Nat} {k n : Nat} {av cv : Value} {A : Nat → Nat} {v : Nat → Nat → Value} {C : Nat → Nat} (h : SetR w0 W u gp fp gc fc mv iv w ro k n av cv A v C)
  {w1 w2 : World} {row : Option Nat} {r : Nat} (hb : Below w.heap.size w w1) (hg : w1.grownBy w2 row) (hr : ∀ b, row = some b → ro b = r) (c : Nat) (x : Value) :
  (∀ g, g < w.heap.size → ro g ≠ r → ro g ≠ 1 → (w2.setCell ⟨W, c, none⟩ x).heap[g]? = w.heap[g]?) ∧ w.heap.size ≤ (w2.setCell ⟨W, c, none⟩ x).heap.size := by
 refine ⟨fun g hl h1 h2 => ?_, ?_⟩
 ·rw [Go.Deep.blk_setCell_other w2 ⟨W, c, none⟩ x g (fun e => h2 (by have e2 : g = W := e; rw [e2]; exact h.roW))]
  exact (hg.block g (by have := hb.size; omega) (fun e => h1 (hr g e.symm))).trans (hb.block g hl)
 ·rw [Go.Deep.nblk_setCell]; exact Nat.le_trans hb.size hg.size
theorem SetR.keepB {w0 : World} {W : Nat} {u : UniL} {gp fp : Option Addr} {gc fc : Nat} {mv iv : Value} {w : World} {ro : Nat → Nat} {k n : Nat} {av cv : Value} {A : Nat → Nat} {v : Nat → Nat → Value} {C : Nat → Nat} (h : SetR w0 W u gp fp gc fc mv iv w ro k n av cv A v C)
  {w1 w2 : World} {row : Option Nat} (hb : Below w.heap.size w w1) (hg : w1.grownBy w2 row) (hr : ∀ b, row = some b → w0.heap.size ≤ b) (c : Nat) (x : Value) :
  Below w0.heap.size w0 (w2.setCell ⟨W, c, none⟩ x) := by
 have h1 : Below w0.heap.size w0 w1 := h.below.trans (hb.mono h.below.size)
 exact (h1.grown hg h1.size hr).setCell h.lowW x
theorem SetR.headAt {w0 : World} {W : Nat} {u : UniL} {gp fp : Option Addr} {gc fc : Nat} {mv iv : Value} {w : World} {ro : Nat → Nat} {k n : Nat} {av cv : Value} {A : Nat → Nat} {v : Nat → Nat → Value} {C : Nat → Nat} (h : SetR w0 W u gp fp gc fc mv iv w ro k n av cv A v C)
  {w1 w2 : World} {row : Option Nat} {r : Nat} (hb : Below w.heap.size w w1) (hg : w1.grownBy w2 row) (hr : ∀ b, row = some b → ro b = r) (hr1 : r ≠ 1) :
  w2.heap[W]? = some (.cells (setC u gp fp gc fc av mv iv cv) 148 (0, 0)) := by
 have zW : W < w.heap.size := (Array.getElem?_eq_some_iff.1 h.head).1
 exact (hg.block W (by have := hb.size; omega) (fun e => hr1 ((hr W e.symm).symm.trans h.roW))).trans ((hb.block W zW).trans h.head)

theorem SetR.mono {w0 : World} {W : Nat} {u : UniL} {gp fp : Option Addr} {gc fc : Nat} {mv iv : Value} {w w' : World} {ro : Nat → Nat} {k n : Nat} {av cv : Value} {A : Nat → Nat} {v : Nat → Nat → Value} {C : Nat → Nat} (h : SetR w0 W u gp fp gc fc mv iv w ro k n av cv A v C) (hb : Below w.heap.size w w') : SetR w0 W u gp fp gc fc mv iv w' ro k n av cv A v C :=
 ⟨h.below.trans (hb.mono h.below.size), heap_below hb (Array.getElem?_eq_some_iff.1 h.head).1 h.head, h.roW, h.lowW, ownsRow_below' h.memO hb, h.roM, ownsRow_below' h.ahdO hb, h.roA, ownsRow_below' h.cntO hb, h.roD, fun j hj => ⟨Nat.lt_of_lt_of_le (h.ra j hj).1 hb.size, (h.ra j hj).2⟩,
  fun j b hj hk => (cell_block (hb.block _ (h.ra j hj).1)).trans (h.row j b hj hk), fun j b hj hk => ownsRow_below' (h.own j b hj hk) hb, h.rv, fun j hj => (h.cntR j hj).of_block (hb.block _ (h.cntR j hj).lt), h.roC, h.lowC⟩

theorem SetR.ahead {w0 : World} {W : Nat} {u : UniL} {gp fp : Option Addr} {gc fc : Nat} {mv iv : Value} {w : World} {ro : Nat → Nat} {k n : Nat} {av cv : Value} {A : Nat → Nat} {v : Nat → Nat → Value} {C : Nat → Nat} (h : SetR w0 W u gp fp gc fc mv iv w ro k n av cv A v C)
  (hn : n ≤ 10) {w1 w2 : World} (hb : Below w.heap.size w w1) {T B : Nat} {f : Nat → Value} (hT : Rows2 w1 B T (fnU u k).blocks.length 46 3 (waysL (fnU u k)) f) (hlow : w.heap.size ≤ T) {av' : Value}
  (hown : w2.ownsRow w0.heap.size 94 1 av' (k + 1) (rowsV u A k ++ [.slice (some ⟨T, 0, none⟩) (fnU u k).blocks.length (fnU u k).blocks.length])) (hg : w1.grownBy w2 av.ownBlock) (hat : av'.ownBlock = av.ownBlock ∨ av'.ownBlock = some w1.heap.size) :
  ∃ ro', SetR w0 W u gp fp gc fc mv iv (w2.setCell ⟨W, 2, none⟩ av') ro' (k + 1) n av' cv (upd A k T) (upd v k f) C := by
 have hra : ∀ b, av.ownBlock = some b → ro b = 100 := h.roA
 have zW : W < w.heap.size := (Array.getElem?_eq_some_iff.1 h.head).1
 have hh := h.headAt hb hg hra (by omega)
 obtain ⟨ho, hsz⟩ := h.old hb hg hra 2 av'
 have hTl : T < w1.heap.size := hT.tab.lt
 have hTB := hT.low
 have hw0 := h.below.size
 have hnew : ∀ g, w.heap.size ≤ g → g < w1.heap.size → av'.ownBlock ≠ some g := fun g h1 h2 e => by
  rcases hat with h3 | h3
  ·have := (h.ahdO.lt g (h3.symm.trans e)).2
   omega
  ·rw [h3] at e
   have := Option.some.inj e
   omega
 have hn1 : ∀ g, w.heap.size ≤ g → g < w1.heap.size → (w2.setCell ⟨W, 2, none⟩ av').heap[g]? = w1.heap[g]? := fun g h1 h2 => by
  rw [Go.Deep.blk_setCell_other w2 ⟨W, 2, none⟩ av' g (fun e => by have e2 : g = W := e; omega)]
  exact hg.block g h2 (fun e => by have := (h.ahdO.lt g e.symm).2; omega)
 have ho2 : ∀ g, g < w.heap.size → ro g ≠ 100 → ro g ≠ 1 → (w2.setCell ⟨W, 2, none⟩ av').heap[g]? = w.heap[g]? := ho
 refine ⟨fun g => if g < w.heap.size then ro g else if av'.ownBlock = some g then 100 else 0, ?_⟩
 have hro : ∀ g, g < w.heap.size → (fun g => if g < w.heap.size then ro g else if av'.ownBlock = some g then 100 else 0) g = ro g := fun g hl => by simp [hl]
 have hro2 : ∀ g, w.heap.size ≤ g → g < w1.heap.size → (fun g => if g < w.heap.size then ro g else if av'.ownBlock = some g then 100 else 0) g = 0 := fun g h1 h2 => by
  simp [Nat.not_lt.2 h1, hnew g h1 h2]
 have hro3 : ∀ g, av'.ownBlock = some g → (fun g => if g < w.heap.size then ro g else if av'.ownBlock = some g then 100 else 0) g = 100 := fun g e => by
  rcases hat with h3 | h3
  ·have e2 := h3.symm.trans e
   have hl := (h.ahdO.lt g e2).2
   simp [hl, hra g e2]
  ·have e2 : w1.heap.size = g := Option.some.inj (h3.symm.trans e)
   have := hb.size
   simp [show ¬ g < w.heap.size by omega, e]
 generalize (fun g => if g < w.heap.size then ro g else if av'.ownBlock = some g then 100 else 0) = ro' at hro hro2 hro3 ⊢
 have hlt : ∀ {j}, j < k + 1 → j ≠ k → j < k := fun h1 h2 => by omega
 refine ⟨h.keepB hb hg (fun b e => (h.ahdO.lt b e).1) 2 av', ?_, (hro _ zW).trans h.roW, h.lowW, ?_, fun g e => (hro _ (h.memO.lt g e).2).trans (h.roM g e), ?_, hro3, ?_, fun g e => (hro _ (h.cntO.lt g e).2).trans (h.roD g e), fun j hj => ?_, fun j b hj hk => ?_, fun j b hj hk => ?_, fun j b hj hk g e => ?_, fun j hj => ?_, fun j hj => ?_, h.lowC⟩
 ·simp only [World.setCell, Array.getElem?_modify, if_pos, hh]
  rfl
 ·exact own_block h.memO fun g e => ho2 g (h.memO.lt g e).2 (by rw [h.roM g e]; omega) (by rw [h.roM g e]; omega)
 ·rw [rowsV_succ]
  refine own_block hown fun g e => Go.Deep.blk_setCell_other w2 ⟨W, 2, none⟩ av' g (fun e2 => ?_)
  have e3 : g = W := e2
  have h1 := hro3 g e
  rw [e3, hro _ zW, h.roW] at h1
  omega
 ·exact own_block h.cntO fun g e => ho2 g (h.cntO.lt g e).2 (by rw [h.roD g e]; omega) (by rw [h.roD g e]; omega)
 ·by_cases e : j = k
  ·subst e
   rw [upd_at]
   exact ⟨by have := hg.size; rw [Go.Deep.nblk_setCell]; omega, hro2 _ hlow hTl⟩
  ·rw [upd_ne _ _ e]
   have h1 := h.ra j (hlt hj e)
   exact ⟨by omega, (hro _ h1.1).trans h1.2⟩
 ·by_cases e : j = k
  ·subst e
   rw [upd_at, upd_at, cell_block (hn1 _ hlow hTl)]
   exact hT.tab.cell hk
  ·rw [upd_ne _ _ e, upd_ne _ _ e]
   have h1 := h.ra j (hlt hj e)
   exact (cell_block (ho2 _ h1.1 (by rw [h1.2]; omega) (by rw [h1.2]; omega))).trans (h.row j b (hlt hj e) hk)
 ·by_cases e : j = k
  ·subst e
   rw [upd_at]
   have h1 := hT.row b hk
   exact own_low (own_block h1 fun g e => hn1 g (by have := (h1.lt g e).1; omega) (h1.lt g e).2) (by omega)
  ·rw [upd_ne _ _ e]
   have h1 := h.own j b (hlt hj e) hk
   exact own_block h1 fun g e2 => ho2 g (h1.lt g e2).2 (by rw [h.rv j b (hlt hj e) hk g e2]; omega) (by rw [h.rv j b (hlt hj e) hk g e2]; omega)
 ·by_cases e2 : j = k
  ·subst e2
   rw [upd_at] at e
   have h1 := hT.row b hk
   exact hro2 g (by have := (h1.lt g e).1; omega) (h1.lt g e).2
  ·rw [upd_ne _ _ e2] at e
   exact (hro _ ((h.own j b (hlt hj e2) hk).lt g e).2).trans (h.rv j b (hlt hj e2) hk g e)
 ·have h1 := h.cntR j hj
  exact h1.of_block (ho2 _ h1.lt (by rw [h.roC j hj]; omega) (by rw [h.roC j hj]; omega))
 ·exact (hro _ (h.cntR j hj).lt).trans (h.roC j hj)

theorem SetR.count {w0 : World} {W : Nat} {u : UniL} {gp fp : Option Addr} {gc fc : Nat} {mv iv : Value} {w : World} {ro : Nat → Nat} {k n : Nat} {av cv : Value} {A : Nat → Nat} {v : Nat → Nat → Value} {C : Nat → Nat} (h : SetR w0 W u gp fp gc fc mv iv w ro k n av cv A v C)
  (hn : n ≤ 10) {w1 w2 : World} (hb : Below w.heap.size w w1) {T : Nat} (hT : w1.rowIs T 3 (fnU u n).blocks.length (fun _ => .int .i64 0)) (hlow : w.heap.size ≤ T) {cv' : Value}
  (hown : w2.ownsRow w0.heap.size 46 1 cv' (n + 1) (rowsV u C n ++ [.slice (some ⟨T, 0, none⟩) (fnU u n).blocks.length (fnU u n).blocks.length])) (hg : w1.grownBy w2 cv.ownBlock) (hat : cv'.ownBlock = cv.ownBlock ∨ cv'.ownBlock = some w1.heap.size) :
  ∃ ro', SetR w0 W u gp fp gc fc mv iv (w2.setCell ⟨W, 10, none⟩ cv') ro' k (n + 1) av cv' A v (upd C n T) := by
 have hra : ∀ b, cv.ownBlock = some b → ro b = 102 := h.roD
 have zW : W < w.heap.size := (Array.getElem?_eq_some_iff.1 h.head).1
 have hh := h.headAt hb hg hra (by omega)
 obtain ⟨ho, hsz⟩ := h.old hb hg hra 10 cv'
 have hTl : T < w1.heap.size := hT.lt
 have hw0 := h.below.size
 have hnew : ∀ g, w.heap.size ≤ g → g < w1.heap.size → cv'.ownBlock ≠ some g := fun g h1 h2 e => by
  rcases hat with h3 | h3
  ·have := (h.cntO.lt g (h3.symm.trans e)).2
   omega
  ·rw [h3] at e
   have := Option.some.inj e
   omega
 have hn1 : ∀ g, w.heap.size ≤ g → g < w1.heap.size → (w2.setCell ⟨W, 10, none⟩ cv').heap[g]? = w1.heap[g]? := fun g h1 h2 => by
  rw [Go.Deep.blk_setCell_other w2 ⟨W, 10, none⟩ cv' g (fun e => by have e2 : g = W := e; omega)]
  exact hg.block g h2 (fun e => by have := (h.cntO.lt g e.symm).2; omega)
 obtain ⟨ro', hro, hro2, hro3⟩ : ∃ ro' : Nat → Nat, (∀ g, g < w.heap.size → ro' g = ro g) ∧ ro' T = 6 + 2 * n ∧ ∀ g, cv'.ownBlock = some g → ro' g = 102 := by
  refine ⟨fun g => if g < w.heap.size then ro g else if cv'.ownBlock = some g then 102 else 6 + 2 * n, fun g hl => by simp [hl], ?_, fun g e => ?_⟩
  ·simp [Nat.not_lt.2 hlow, hnew T hlow hTl]
  ·rcases hat with h3 | h3
   ·have e2 := h3.symm.trans e
    have hl := (h.cntO.lt g e2).2
    simp [hl, hra g e2]
   ·have e2 : w1.heap.size = g := Option.some.inj (h3.symm.trans e)
    have := hb.size
    simp [show ¬ g < w.heap.size by omega, e]
 have hlt : ∀ {j}, j < n + 1 → j ≠ n → j < n := fun h1 h2 => by omega
 refine ⟨ro', h.keepB hb hg (fun b e => (h.cntO.lt b e).1) 10 cv', ?_, (hro _ zW).trans h.roW, h.lowW, ?_, fun g e => (hro _ (h.memO.lt g e).2).trans (h.roM g e), ?_, fun g e => (hro _ (h.ahdO.lt g e).2).trans (h.roA g e), ?_, hro3, fun j hj => ?_, fun j b hj hk => ?_, fun j b hj hk => ?_, fun j b hj hk g e => ?_, fun j hj => ?_, fun j hj => ?_, fun j hj => ?_⟩
 ·simp only [World.setCell, Array.getElem?_modify, if_pos, hh]
  rfl
 ·exact own_block h.memO fun g e => ho g (h.memO.lt g e).2 (by rw [h.roM g e]; omega) (by rw [h.roM g e]; omega)
 ·exact own_block h.ahdO fun g e => ho g (h.ahdO.lt g e).2 (by rw [h.roA g e]; omega) (by rw [h.roA g e]; omega)
 ·rw [rowsV_succ]
  refine own_block hown fun g e => Go.Deep.blk_setCell_other w2 ⟨W, 10, none⟩ cv' g (fun e2 => ?_)
  have e3 : g = W := e2
  have h1 := hro3 g e
  rw [e3, hro _ zW, h.roW] at h1
  omega
 ·have h1 := h.ra j hj
  exact ⟨by omega, (hro _ h1.1).trans h1.2⟩
 ·have h1 := h.ra j hj
  exact (cell_block (ho _ h1.1 (by rw [h1.2]; omega) (by rw [h1.2]; omega))).trans (h.row j b hj hk)
 ·have h1 := h.own j b hj hk
  exact own_block h1 fun g e2 => ho g (h1.lt g e2).2 (by rw [h.rv j b hj hk g e2]; omega) (by rw [h.rv j b hj hk g e2]; omega)
 ·exact (hro _ ((h.own j b hj hk).lt g e).2).trans (h.rv j b hj hk g e)
 ·by_cases e : j = n
  ·subst e
   rw [upd_at]
   exact hT.of_block (hn1 _ hlow hTl)
  ·rw [upd_ne _ _ e]
   have h1 := h.cntR j (hlt hj e)
   have h2 := h.roC j (hlt hj e)
   exact h1.of_block (ho _ h1.lt (by omega) (by omega))
 ·by_cases e : j = n
  ·subst e
   rw [upd_at]
   exact hro2
  ·rw [upd_ne _ _ e]
   exact (hro _ (h.cntR j (hlt hj e)).lt).trans (h.roC j (hlt hj e))
 ·by_cases e : j = n
  ·subst e
   rw [upd_at]
   omega
  ·rw [upd_ne _ _ e]
   exact h.lowC j (hlt hj e)
theorem SetR.start {w0 : World} {W : Nat} {u : UniL} {gp fp : Option Addr} {gc fc : Nat} {mv iv : Value} {w : World} (hz : w0.heap.size = W) (hb : Below w0.heap.size w0 w) (hW : w.heap[W]? = some (.cells (setC u gp fp gc fc (.slice none 0 0) mv iv (.slice none 0 0)) 148 (0, 0)))
  (hown : w.ownsRow (W + 1) 3 1 mv (memU u).length ((memU u).map (.int .i64))) : ∃ ro, SetR w0 W u gp fp gc fc mv iv w ro 0 0 (.slice none 0 0) (.slice none 0 0) (fun _ => 0) (fun _ _ => .slice none 0 0) (fun _ => 0) :=
 ⟨fun g => if g = W then 1 else 2, hb, hW, by simp, by omega, own_low hown (by omega), fun g e => by have := (hown.lt g e).1; simp [show g ≠ W by omega], World.ownsRow_nil _ _ _ _, fun g e => by simp [Value.ownBlock] at e, World.ownsRow_nil _ _ _ _, fun g e => by simp [Value.ownBlock] at e,
  fun j hj => absurd hj (by omega), fun j b hj => absurd hj (by omega), fun j b hj => absurd hj (by omega), fun j b hj => absurd hj (by omega), fun j hj => absurd hj (by omega), fun j hj => absurd hj (by omega), fun j hj => absurd hj (by omega)⟩
theorem SetR.cntStep {w0 : World} {W : Nat} {u : UniL} {gp fp : Option Addr} {gc fc : Nat} {mv iv : Value} {w : World} {ro : Nat → Nat} {k n : Nat} {av : Value} {cp : Option Addr} {cc : Nat} {A : Nat → Nat} {v : Nat → Nat → Value} {C : Nat → Nat} (h : SetR w0 W u gp fp gc fc mv iv w ro k n av (.slice cp n cc) A v C)
  (hn : n ≤ 10) {W' : World} (hb : Below w.heap.size w W') (g : Nat) (p : Option Addr) (a b : Nat) (hc : W'.cell? ⟨g, 0, none⟩ = some (.slice p a b)) :
  ∃ v' w', (Builtin.append_ #[94, 94] 94 #[.slice cp n cc, .slice (some ⟨g, 0, none⟩) 1 1]).run Tryd.prog W' = .ok v' w' ∧ ∃ p' c', v' = .slice p' (n + 1) c' ∧ w'.ownsRow w0.heap.size 46 1 (.slice p' (n + 1) c') (n + 1) (rowsV u C n ++ [.slice p a b]) ∧ W'.grownBy w' (Value.slice cp n cc).ownBlock ∧ ((Value.slice p' (n + 1) c').ownBlock = (Value.slice cp n cc).ownBlock ∨ (Value.slice p' (n + 1) c').ownBlock = some W'.heap.size) ∧
   w'.heap[W]? = some (.cells (setC u gp fp gc fc av mv iv (.slice cp n cc)) 148 (0, 0)) := by
 obtain ⟨i3, m1, m2, m3, m4⟩ := info_parts infoInts8
 obtain ⟨v', w', hr, h1, h2, _, h3⟩ := run_append_own_at (P := Tryd.prog) W' w0.heap.size 94 94 46 i3 (.slice none 0 0) 1 24 underRows9 m1 m2 m3 m4 rfl (by decide) _ n _ (ownsRow_below' h.cntO hb) ⟨g, 0, none⟩ 1 1 [.slice p a b] rfl (fun j u hu => by
  cases j with
  | zero => cases hu; simpa [Addr.add_lit] using hc
  | succ j => simp at hu) (by simp [Value.oneCell']) (by unfold maxLen; omega) (by omega) (by have := h.below.size; have := hb.size; omega)
 obtain ⟨p', c', rfl⟩ := own_slice h1
 exact ⟨_, w', hr, p', c', rfl, h1, h2, h3, h.headAt hb h2 h.roD (by omega)⟩
theorem rowsV_get {u : UniL} {A : Nat → Nat} {k j : Nat} (h : j < k) : (rowsV u A k)[j]? = some (.slice (some ⟨A j, 0, none⟩) (fnU u j).blocks.length (fnU u j).blocks.length) := by
 unfold rowsV
 rw [List.getElem?_map, List.getElem?_range h]
 rfl
theorem SetR.walk {w0 : World} {W : Nat} {u : UniL} {gp fp : Option Addr} {gc fc : Nat} {mv iv : Value} {w : World} {ro : Nat → Nat} {av cv : Value} {A : Nat → Nat} {v : Nat → Nat → Value} {C : Nat → Nat} (h : SetR w0 W u gp fp gc fc mv iv w ro u.funcs.length u.funcs.length av cv A v C)
  (h0 : 0 < u.funcs.length) (hn : u.funcs.length ≤ 10) {inp : List Int} (hi : ∃ p c, iv = .slice p inp.length c ∧ inp.length ≤ c ∧ (p = none → c = 0) ∧ SliceAt w0 1 IntR p inp) :
  ∃ TA ac CT cc, w0.heap.size ≤ CT ∧ Walks ⟨w0, W, gp, fp, gc, fc, TA, ac, A, v, mv, CT, cc, C⟩ u w ⟨memU u, inp, 0, 0, [], 0, [], fun _ _ => 0⟩ := by
 obtain ⟨TA, ac, rfl⟩ : ∃ TA ac, av = .slice (some ⟨TA, 0, none⟩) u.funcs.length ac := by
  rcases h.ahdO.2 with ⟨_, h1⟩ | ⟨g, cap, cur, hv, _⟩
  ·omega
  ·exact ⟨g, cap, hv⟩
 obtain ⟨CT, cc, rfl⟩ : ∃ CT cc, cv = .slice (some ⟨CT, 0, none⟩) u.funcs.length cc := by
  rcases h.cntO.2 with ⟨_, h1⟩ | ⟨g, cap, cur, hv, _⟩
  ·omega
  ·exact ⟨g, cap, hv⟩
 have hA := h.roA TA rfl
 have hC := h.roD CT rfl
 refine ⟨TA, ac, CT, cc, (h.cntO.lt CT rfl).1, fun g => if ro g = 100 ∨ ro g = 102 then 0 else ro g, fun _ => 0, iv, .slice none 0 0, .slice none 0 0, ?_⟩
 have h2 : ∀ g, ro g ≠ 100 → ro g ≠ 102 → (fun g => if ro g = 100 ∨ ro g = 102 then 0 else ro g) g = ro g := fun g h1 h2 => by simp [h1, h2]
 have h3 : ∀ g, ro g = 0 → (fun g => if ro g = 100 ∨ ro g = 102 then 0 else ro g) g = 0 := fun g h1 => by simp [h1]
 refine ⟨h.below, h.head, (h2 _ (by rw [h.roW]; omega) (by rw [h.roW]; omega)).trans h.roW, h.lowW, h.memO, fun g e => (h2 _ (by rw [h.roM g e]; omega) (by rw [h.roM g e]; omega)).trans (h.roM g e), World.ownsRow_nil _ _ _ _, fun g e => by simp [Value.ownBlock] at e, World.ownsRow_nil _ _ _ _, fun g e => by simp [Value.ownBlock] at e, trivial, fun i hi => absurd hi (by simp), fun i hi => absurd hi (by simp), hi, fun k hk => by simp [hC], fun k hk => ?_, h.cntR, fun k hk => ?_, h.lowC, ⟨fun k hk => by simp [hA], fun k hk => ?_, fun k b hk hb => h3 _ (h.ra k hk).2, h.row, h.own, fun k b hk hb g e => h3 _ (h.rv k b hk hb g e)⟩⟩
 ·have h1 := h.cntO.cells (g := CT) rfl k _ (rowsV_get hk)
  simpa [Addr.add_lit] using h1
 ·exact (h2 _ (by rw [h.roC k hk]; omega) (by rw [h.roC k hk]; omega)).trans (h.roC k hk)
 ·have h1 := h.ahdO.cells (g := TA) rfl k _ (rowsV_get hk)
  simpa [Addr.add_lit] using h1
theorem set_at {w : World} {k o : Nat} {A A' : Array Value} {T : TypeId} {v : Value} (h : w.heap[k]? = some (.cells A T (0, 0))) (hA : A.setIfInBounds o v = A') : (w.setCell ⟨k, o, none⟩ v).heap[k]? = some (.cells A' T (0, 0)) := by
 rw [heap_set h, hA]
theorem set_off {w : World} {k o j : Nat} {v : Value} (h : j ≠ k) : (w.setCell ⟨k, o, none⟩ v).heap[j]? = w.heap[j]? := Go.Deep.blk_setCell_other w ⟨k, o, none⟩ v j h
theorem cell_drew (w : World) (a : Addr) : w.drew.cell? a = w.cell? a := rfl
theorem six0 {w : World} {a b : Nat} (hab : a ≠ b) {T T' : TypeId} {x0 x1 x2 x3 y0 y1 : Value} (h0 : w.heap[a]? = some (.cells #[x0, x1, x2, x3] T (0, 0))) (h1 : w.heap[b]? = some (.cells #[y0, y1] T' (0, 0))) (v0 v1 v2 v3 z0 z1 : Value) {B : Nat} (ha : B ≤ a) (hb : B ≤ b) :
  ((((((w.setCell ⟨a, 0, none⟩ v0).setCell ⟨a, 1, none⟩ v1).setCell ⟨a, 2, none⟩ v2).setCell ⟨a, 3, none⟩ v3).setCell ⟨b, 0, none⟩ z0).setCell ⟨b, 1, none⟩ z1).heap[a]? = some (.cells #[v0, v1, v2, v3] T (0, 0)) ∧
  ((((((w.setCell ⟨a, 0, none⟩ v0).setCell ⟨a, 1, none⟩ v1).setCell ⟨a, 2, none⟩ v2).setCell ⟨a, 3, none⟩ v3).setCell ⟨b, 0, none⟩ z0).setCell ⟨b, 1, none⟩ z1).heap[b]? = some (.cells #[z0, z1] T' (0, 0)) ∧
  (∀ c, c ≠ a → c ≠ b → ((((((w.setCell ⟨a, 0, none⟩ v0).setCell ⟨a, 1, none⟩ v1).setCell ⟨a, 2, none⟩ v2).setCell ⟨a, 3, none⟩ v3).setCell ⟨b, 0, none⟩ z0).setCell ⟨b, 1, none⟩ z1).heap[c]? = w.heap[c]?) ∧
  Below B w ((((((w.setCell ⟨a, 0, none⟩ v0).setCell ⟨a, 1, none⟩ v1).setCell ⟨a, 2, none⟩ v2).setCell ⟨a, 3, none⟩ v3).setCell ⟨b, 0, none⟩ z0).setCell ⟨b, 1, none⟩ z1) := by
 refine ⟨?_, ?_, fun c h2 h3 => ?_, ?_⟩
 ·rw [set_off hab, set_off hab]
  exact set_at (A := #[v0, v1, v2, x3]) (set_at (A := #[v0, v1, x2, x3]) (set_at (A := #[v0, x1, x2, x3]) (set_at h0 rfl) rfl) rfl) rfl
 ·refine set_at (A := #[z0, y1]) (set_at (A := #[y0, y1]) ?_ rfl) rfl
  rw [set_off hab.symm, set_off hab.symm, set_off hab.symm, set_off hab.symm]
  exact h1
 ·rw [set_off h3, set_off h3, set_off h2, set_off h2, set_off h2, set_off h2]
 ·exact (((((((Below.refl B w).setCell ha _).setCell ha _).setCell ha _).setCell ha _).setCell hb _).setCell hb _)
theorem six_stores {w : World} {a b : Nat} (hab : a ≠ b) {T T' : TypeId} {x0 x1 x2 x3 y0 y1 : Value} (h0 : w.heap[a]? = some (.cells #[x0, x1, x2, x3] T (0, 0))) (h1 : w.heap[b]? = some (.cells #[y0, y1] T' (0, 0))) (v0 v1 v2 v3 z0 z1 : Value) {B : Nat} (ha : B ≤ a) (hb : B ≤ b) :
  ((((((w.setCell ⟨a, 0, none⟩ v0).setCell ⟨a, 1, none⟩ v1).setCell ⟨a, 2, none⟩ v2).setCell ⟨a, 3, none⟩ v3).setCell ⟨b, 0, none⟩ z0).setCell ⟨b, 1, none⟩ z1).drew.heap[a]? = some (.cells #[v0, v1, v2, v3] T (0, 0)) ∧
  ((((((w.setCell ⟨a, 0, none⟩ v0).setCell ⟨a, 1, none⟩ v1).setCell ⟨a, 2, none⟩ v2).setCell ⟨a, 3, none⟩ v3).setCell ⟨b, 0, none⟩ z0).setCell ⟨b, 1, none⟩ z1).drew.heap[b]? = some (.cells #[z0, z1] T' (0, 0)) ∧
  (∀ c, c ≠ a → c ≠ b → ((((((w.setCell ⟨a, 0, none⟩ v0).setCell ⟨a, 1, none⟩ v1).setCell ⟨a, 2, none⟩ v2).setCell ⟨a, 3, none⟩ v3).setCell ⟨b, 0, none⟩ z0).setCell ⟨b, 1, none⟩ z1).drew.heap[c]? = w.heap[c]?) ∧
  Below B w ((((((w.setCell ⟨a, 0, none⟩ v0).setCell ⟨a, 1, none⟩ v1).setCell ⟨a, 2, none⟩ v2).setCell ⟨a, 3, none⟩ v3).setCell ⟨b, 0, none⟩ z0).setCell ⟨b, 1, none⟩ z1).drew := by
 obtain ⟨h2, h3, h4, h5⟩ := six0 hab h0 h1 v0 v1 v2 v3 z0 z1 ha hb
 have e : ∀ W : World, W.drew.heap = W.heap := fun _ => rfl
 simp only [e]
 exact ⟨h2, h3, h4, h5.drew⟩
def tell6 (w : World) (a b : Nat) (v0 v1 v2 v3 z0 z1 : Value) : World := (((((w.setCell ⟨a, 0, none⟩ v0).setCell ⟨a, 1, none⟩ v1).setCell ⟨a, 2, none⟩ v2).setCell ⟨a, 3, none⟩ v3).setCell ⟨b, 0, none⟩ z0).setCell ⟨b, 1, none⟩ z1
theorem tell6_spec {w : World} {a b : Nat} (hab : a ≠ b) {T T' : TypeId} {x0 x1 x2 x3 y0 y1 : Value} (h0 : w.heap[a]? = some (.cells #[x0, x1, x2, x3] T (0, 0))) (h1 : w.heap[b]? = some (.cells #[y0, y1] T' (0, 0))) (v0 v1 v2 v3 z0 z1 : Value) {B : Nat} (ha : B ≤ a) (hb : B ≤ b) :
  (∀ o, (tell6 w a b v0 v1 v2 v3 z0 z1).cell? ⟨a, o, none⟩ = #[v0, v1, v2, v3][o]?) ∧ (∀ o, (tell6 w a b v0 v1 v2 v3 z0 z1).cell? ⟨b, o, none⟩ = #[z0, z1][o]?) ∧ (∀ c, c ≠ a → c ≠ b → (tell6 w a b v0 v1 v2 v3 z0 z1).heap[c]? = w.heap[c]?) ∧ Below B w (tell6 w a b v0 v1 v2 v3 z0 z1) ∧ a < (tell6 w a b v0 v1 v2 v3 z0 z1).heap.size ∧ b < (tell6 w a b v0 v1 v2 v3 z0 z1).heap.size := by
 unfold tell6
 obtain ⟨h2, h3, h4, h5⟩ := six0 hab h0 h1 v0 v1 v2 v3 z0 z1 ha hb
 exact ⟨(blk h2).1, (blk h3).1, h4, h5, (Array.getElem?_eq_some_iff.1 h2).1, (Array.getElem?_eq_some_iff.1 h3).1⟩
structure RunAt (u : UniL) (w : World) (s : StL) (B CT : Nat) (p : Option Addr) : Prop where
 cnt : ∃ C : Nat → Nat, ∀ k, k < u.funcs.length → w.cell? ⟨CT, k, none⟩ = some (.slice (some ⟨C k, 0, none⟩) (fnU u k).blocks.length (fnU u k).blocks.length) ∧ w.rowIs (C k) 3 (fnU u k).blocks.length (fun b => .int .i64 (s.cnt k b))
 outs : SliceAt w 1 IntR p s.outs
 low : ∀ a, p = some a → B ≤ a.block
theorem WalkR.result {L : Lies} {u : UniL} {w w' : World} {ro R : Nat → Nat} {iv fv : Value} {p : Option Addr} {n c B : Nat} {s : StL} (h : WalkR L u w ro R iv (.slice p n c) fv s) (hi : ∀ x ∈ s.outs, I64 x) (hT : L.w0.heap.size ≤ L.CT) (hB : B ≤ L.w0.heap.size) (hk : ∀ b, L.w0.heap.size ≤ b → w'.heap[b]? = w.heap[b]?) : RunAt u w' s B L.CT p := by
 have ho := own_block (w' := w') h.outO fun g e => hk g (h.outO.lt g e).1
 obtain ⟨p', c', e, hs⟩ := own_ints rfl ho hi
 cases e
 refine ⟨⟨L.C, fun k hk2 => ⟨(cell_block (hk _ hT)).trans (h.cntT k hk2), (h.cntR k hk2).of_block (hk _ (h.lowC k hk2))⟩⟩, hs, fun a e => ?_⟩
 rcases h.outO.2 with ⟨h0, _⟩ | ⟨g, cap, cur, hv, h1, _⟩
 ·injection h0 with e1 _ _
  rw [e1] at e
  cases e
 ·injection hv with e1 _ _
  rw [e1] at e
  cases e
  exact Nat.le_trans hB h1
theorem slice_block {α : Type} {w w' : World} {k : Nat} {R : List Value → α → Prop} {p : Option Addr} {xs : List α} (h : SliceAt w k R p xs) (hb : ∀ a, p = some a → w'.heap[a.block]? = w.heap[a.block]?) : SliceAt w' k R p xs := by
 rcases h with h | ⟨b, o, e, h⟩
 ·exact .inl h
 ·refine .inr ⟨b, o, e, fun i hi => ?_⟩
  obtain ⟨cs, hl, hc, hR⟩ := h i hi
  exact ⟨cs, hl, fun j hj => (cell_block (hb ⟨b, o, none⟩ e)).trans (hc j hj), hR⟩
end Go.Proofs.YtdjamkinijhjoaaDoor
