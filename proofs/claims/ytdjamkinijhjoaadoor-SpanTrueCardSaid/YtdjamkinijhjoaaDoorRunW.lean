/-
  How a run under way lies in memory: the walker, its memory, what it printed, the functions under way and their registers, its counts.
-/
import Derived.Deep.OwnRows
import Derived.WalkSmall
import Derived.WalkKit
import Derived.WalkSpells
import Derived.WalkLawsBesides
import Derived.Test.YtdjamkinijhjoaaDoorJDomA
import Derived.Test.YtdjamkinijhjoaaDoorRunQ
namespace Go.Proofs.YtdjamkinijhjoaaDoor
open Go.RowKit

def frCells (R : Nat → Nat) : List FrL → List Value
 | [] => []
 | f :: rest => frCells R rest ++ [.int .i64 f.fn, .int .i64 f.block, .int .i64 f.pos, .slice (some ⟨R rest.length, 0, none⟩) f.regs.length f.regs.length, .int .i64 f.dst]
theorem frCells_len (R : Nat → Nat) : ∀ l, (frCells R l).length = l.length * 5
 | [] => rfl
 | f :: rest => by
  unfold frCells
  rw [List.length_append, frCells_len R rest]
  simp only [List.length_cons, List.length_nil]
  omega
theorem frCells_congr {R R' : Nat → Nat} : ∀ l : List FrL, (∀ i, i < l.length → R i = R' i) → frCells R l = frCells R' l
 | [], _ => rfl
 | f :: rest, h => by
  unfold frCells
  rw [frCells_congr rest fun i hi => h i (by simp; omega), h rest.length (by simp)]
theorem frCells_top (R : Nat → Nat) (f : FrL) (rest : List FrL) :
  (frCells R (f :: rest))[rest.length * 5]? = some (.int .i64 f.fn) ∧ (frCells R (f :: rest))[rest.length * 5 + 1]? = some (.int .i64 f.block) ∧ (frCells R (f :: rest))[rest.length * 5 + 2]? = some (.int .i64 f.pos) ∧
  (frCells R (f :: rest))[rest.length * 5 + 3]? = some (.slice (some ⟨R rest.length, 0, none⟩) f.regs.length f.regs.length) ∧ (frCells R (f :: rest))[rest.length * 5 + 4]? = some (.int .i64 f.dst) := by
 have hl := frCells_len R rest
 unfold frCells
 refine ⟨?_, ?_, ?_, ?_, ?_⟩ <;>
  (rw [List.getElem?_append_right (by omega), hl]; simp [Nat.add_sub_cancel_left])
theorem frCells_set1 (R : Nat → Nat) (f : FrL) (rest : List FrL) (n : Nat) : (frCells R (f :: rest)).set (rest.length * 5 + 1) (.int .i64 n) = frCells R ({ f with block := n } :: rest) := by
 have hl := frCells_len R rest
 unfold frCells
 rw [List.set_append_right _ _ (by omega), hl]
 simp [Nat.add_sub_cancel_left]
theorem frCells_set2 (R : Nat → Nat) (f : FrL) (rest : List FrL) (n : Nat) : (frCells R (f :: rest)).set (rest.length * 5 + 2) (.int .i64 n) = frCells R ({ f with pos := n } :: rest) := by
 have hl := frCells_len R rest
 unfold frCells
 rw [List.set_append_right _ _ (by omega), hl]
 simp [Nat.add_sub_cancel_left]
def RegsW (w : World) (R : Nat → Nat) : List FrL → Prop
 | [] => True
 | f :: rest => w.rowIs (R rest.length) 3 f.regs.length (fun j => .int .i64 (f.regs.getD j 0)) ∧ RegsW w R rest
theorem RegsW.kept {w w' : World} {R : Nat → Nat} {row : Option Nat} (hg : w.grownBy w' row) : ∀ {l : List FrL}, RegsW w R l → (∀ i, i < l.length → some (R i) ≠ row) → RegsW w' R l
 | [], _, _ => trivial
 | f :: rest, h, hr => ⟨h.1.of_block (hg.block _ h.1.lt (hr _ (by simp))), h.2.kept hg fun i hi => hr i (by simp; omega)⟩
theorem RegsW.congr {w : World} {R R' : Nat → Nat} : ∀ {l : List FrL}, RegsW w R l → (∀ i, i < l.length → R i = R' i) → RegsW w R' l
 | [], _, _ => trivial
 | f :: rest, h, hr => ⟨by rw [← hr rest.length (by simp)]; exact h.1, h.2.congr fun i hi => hr i (by simp; omega)⟩

structure AhdR (w0 w : World) (ro : Nat → Nat) (u : UniL) (TA : Nat) (A : Nat → Nat) (v : Nat → Nat → Value) : Prop where
 ta : ∀ k, k < u.funcs.length → ro TA = 0
 tab : ∀ k, k < u.funcs.length → w.cell? ⟨TA, k, none⟩ = some (.slice (some ⟨A k, 0, none⟩) (fnU u k).blocks.length (fnU u k).blocks.length)
 ra : ∀ k b, k < u.funcs.length → b < (fnU u k).blocks.length → ro (A k) = 0
 row : ∀ k b, k < u.funcs.length → b < (fnU u k).blocks.length → w.cell? ⟨A k, b, none⟩ = some (v k b)
 own : ∀ k b, k < u.funcs.length → b < (fnU u k).blocks.length → w.ownsRow w0.heap.size 3 1 (v k b) (rowOf (waysL (fnU u k)) b).length ((rowOf (waysL (fnU u k)) b).map fun i : Nat => .int .i64 (i : Int))
 rv : ∀ k b, k < u.funcs.length → b < (fnU u k).blocks.length → ∀ g, (v k b).ownBlock = some g → ro g = 0
theorem keep_own {w w' : World} {row : Option Nat} {B : Nat} {e : TypeId} {z : Nat} {v : Value} {n : Nat} {xs : List Value} (h : w.ownsRow B e z v n xs) (hg : w.grownBy w' row) (hr : ∀ g, v.ownBlock = some g → some g ≠ row) : w'.ownsRow B e z v n xs := by
 refine h.kept hg ?_
 cases hv : v.ownBlock with
 | none => exact .inl rfl
 | some g => exact .inr (hr g hv)
theorem AhdR.kept {w0 w w' : World} {ro ro' : Nat → Nat} {u : UniL} {TA : Nat} {A : Nat → Nat} {v : Nat → Nat → Value} {row : Option Nat} (h : AhdR w0 w ro u TA A v) (hg : w.grownBy w' row) (hr : ∀ b, row = some b → ro b ≠ 0) (hro : ∀ g, g < w.heap.size → ro' g = ro g) : AhdR w0 w' ro' u TA A v := by
 have hne : ∀ g, ro g = 0 → some g ≠ row := fun g h0 e => hr g e.symm h0
 refine ⟨fun k hk => (hro _ (lt_of_cell (h.tab k hk))).trans (h.ta k hk), fun k hk => ?_, fun k b hk hb => ?_, fun k b hk hb => ?_, fun k b hk hb => ?_, fun k b hk hb g hgv => ?_⟩
 ·exact hg.cell (h.tab k hk) (hne _ (h.ta k hk))
 ·exact (hro _ (lt_of_cell (h.row k b hk hb))).trans (h.ra k b hk hb)
 ·exact hg.cell (h.row k b hk hb) (hne _ (h.ra k b hk hb))
 ·exact keep_own (h.own k b hk hb) hg fun g e => hne g (h.rv k b hk hb g e)
 ·exact (hro _ ((h.own k b hk hb).lt g hgv).2).trans (h.rv k b hk hb g hgv)

structure Lies where
 w0 : World
 W : Nat
 gp : Option Addr
 fp : Option Addr
 gc : Nat
 fc : Nat
 TA : Nat
 ac : Nat
 A : Nat → Nat
 v : Nat → Nat → Value
 mv : Value
 CT : Nat
 cc : Nat
 C : Nat → Nat
def headC (L : Lies) (u : UniL) (iv ov fv : Value) (s : StL) : Array Value :=
 #[.slice L.gp u.globals.length L.gc, .slice L.fp u.funcs.length L.fc, .slice (some ⟨L.TA, 0, none⟩) u.funcs.length L.ac, L.mv, iv, .int .i64 s.state, .int .i64 s.value, ov, .int .i64 s.steps, fv, .slice (some ⟨L.CT, 0, none⟩) u.funcs.length L.cc]
structure WalkR (L : Lies) (u : UniL) (w : World) (ro R : Nat → Nat) (iv ov fv : Value) (s : StL) : Prop where
 below : Below L.w0.heap.size L.w0 w
 head : w.heap[L.W]? = some (.cells (headC L u iv ov fv s) 148 (0, 0))
 roW : ro L.W = 1
 lowW : L.w0.heap.size ≤ L.W
 memO : w.ownsRow L.w0.heap.size 3 1 L.mv s.mem.length (s.mem.map (.int .i64))
 roM : ∀ g, L.mv.ownBlock = some g → ro g = 2
 outO : w.ownsRow L.w0.heap.size 3 1 ov s.outs.length (s.outs.map (.int .i64))
 roO : ∀ g, ov.ownBlock = some g → ro g = 3
 frmO : w.ownsRow L.w0.heap.size 181 5 fv s.frames.length (frCells R s.frames)
 roF : ∀ g, fv.ownBlock = some g → ro g = 4
 regs : RegsW w R s.frames
 roR : ∀ i, i < s.frames.length → ro (R i) = 5 + 2 * i
 lowR : ∀ i, i < s.frames.length → L.w0.heap.size ≤ R i
 inp : ∃ p c, iv = .slice p s.inp.length c ∧ s.inp.length ≤ c ∧ (p = none → c = 0) ∧ SliceAt L.w0 1 IntR p s.inp
 roT : ∀ k, k < u.funcs.length → ro L.CT = 0
 cntT : ∀ k, k < u.funcs.length → w.cell? ⟨L.CT, k, none⟩ = some (.slice (some ⟨L.C k, 0, none⟩) (fnU u k).blocks.length (fnU u k).blocks.length)
 cntR : ∀ k, k < u.funcs.length → w.rowIs (L.C k) 3 (fnU u k).blocks.length (fun b => .int .i64 (s.cnt k b))
 roC : ∀ k, k < u.funcs.length → ro (L.C k) = 6 + 2 * k
 lowC : ∀ k, k < u.funcs.length → L.w0.heap.size ≤ L.C k
 ahd : AhdR L.w0 w ro u L.TA L.A L.v

structure Left (L : Lies) (u : UniL) (w w' : World) (ro ro' R : Nat → Nat) (iv ov fv : Value) (s : StL) (r : Nat) : Prop where
 below : Below L.w0.heap.size L.w0 w'
 head : r ≠ 1 → w'.heap[L.W]? = some (.cells (headC L u iv ov fv s) 148 (0, 0))
 roW : ro' L.W = 1
 memO : r ≠ 2 → w'.ownsRow L.w0.heap.size 3 1 L.mv s.mem.length (s.mem.map (.int .i64))
 roM : ∀ g, L.mv.ownBlock = some g → ro' g = 2
 outO : r ≠ 3 → w'.ownsRow L.w0.heap.size 3 1 ov s.outs.length (s.outs.map (.int .i64))
 roO : ∀ g, ov.ownBlock = some g → ro' g = 3
 frmO : r ≠ 4 → w'.ownsRow L.w0.heap.size 181 5 fv s.frames.length (frCells R s.frames)
 roF : ∀ g, fv.ownBlock = some g → ro' g = 4
 regs : (∀ i, i < s.frames.length → r ≠ 5 + 2 * i) → RegsW w' R s.frames
 rest : ∀ f l, s.frames = f :: l → r = 5 + 2 * l.length → RegsW w' R l
 roR : ∀ i, i < s.frames.length → ro' (R i) = 5 + 2 * i
 roT : ∀ k, k < u.funcs.length → ro' L.CT = 0
 cntT : ∀ k, k < u.funcs.length → w'.cell? ⟨L.CT, k, none⟩ = some (.slice (some ⟨L.C k, 0, none⟩) (fnU u k).blocks.length (fnU u k).blocks.length)
 cntR : ∀ k, k < u.funcs.length → r ≠ 6 + 2 * k → w'.rowIs (L.C k) 3 (fnU u k).blocks.length (fun b => .int .i64 (s.cnt k b))
 roC : ∀ k, k < u.funcs.length → ro' (L.C k) = 6 + 2 * k
 ahd : AhdR L.w0 w' ro' u L.TA L.A L.v
theorem regs_lt {w : World} {R : Nat → Nat} : ∀ {l : List FrL}, RegsW w R l → ∀ i, i < l.length → R i < w.heap.size
 | [], _, i, hi => by simp at hi
 | f :: rest, h, i, hi => by
  rcases Nat.lt_or_ge i rest.length with g | g
  ·exact regs_lt h.2 i g
  ·obtain rfl : i = rest.length := by simp at hi; omega
   exact h.1.lt
theorem WalkR.left {L : Lies} {u : UniL} {w w' : World} {ro ro' R : Nat → Nat} {iv ov fv : Value} {s : StL} {row : Option Nat} {r : Nat} (h : WalkR L u w ro R iv ov fv s) (hg : w.grownBy w' row) (hb : Below L.w0.heap.size L.w0 w')
  (hr : ∀ b, row = some b → ro b = r) (hr0 : r ≠ 0) (hro : ∀ g, g < w.heap.size → ro' g = ro g) : Left L u w w' ro ro' R iv ov fv s r := by
 have hne : ∀ g x, ro g = x → r ≠ x → some g ≠ row := fun g x h0 hx e => hx ((hr g e.symm).symm.trans h0)
 have hW : L.W < w.heap.size := (Array.getElem?_eq_some_iff.1 h.head).1
 refine ⟨hb, fun e => ?_, (hro _ hW).trans h.roW, fun e => ?_, fun g hgv => ?_, fun e => ?_, fun g hgv => ?_, fun e => ?_, fun g hgv => ?_, fun e => ?_, fun f l hs e => ?_, fun i hi => ?_, fun k hk => ?_, fun k hk => ?_, fun k hk e => ?_, fun k hk => ?_, ?_⟩
 ·exact (hg.block _ hW (hne _ _ h.roW e)).trans h.head
 ·exact keep_own h.memO hg fun g hv => hne g _ (h.roM g hv) e
 ·exact (hro _ (h.memO.lt g hgv).2).trans (h.roM g hgv)
 ·exact keep_own h.outO hg fun g hv => hne g _ (h.roO g hv) e
 ·exact (hro _ (h.outO.lt g hgv).2).trans (h.roO g hgv)
 ·exact keep_own h.frmO hg fun g hv => hne g _ (h.roF g hv) e
 ·exact (hro _ (h.frmO.lt g hgv).2).trans (h.roF g hgv)
 ·exact h.regs.kept hg fun i hi => hne _ _ (h.roR i hi) (e i hi)
 ·have h1 := h.regs
  have h2 := h.roR
  rw [hs] at h1 h2
  exact h1.2.kept hg fun i hi => hne _ _ (h2 i (by simp; omega)) (by omega)
 ·exact (hro _ (regs_lt h.regs i hi)).trans (h.roR i hi)
 ·exact (hro _ (lt_of_cell (h.cntT k hk))).trans (h.roT k hk)
 ·exact hg.cell (h.cntT k hk) (hne _ _ (h.roT k hk) hr0)
 ·exact (h.cntR k hk).of_block (hg.block _ (h.cntR k hk).lt (hne _ _ (h.roC k hk) e))
 ·exact (hro _ (h.cntR k hk).lt).trans (h.roC k hk)
 ·exact h.ahd.kept hg (fun b e e0 => hr0 ((hr b e).symm.trans e0)) hro
theorem grown_set (w : World) (a : Addr) (v : Value) : w.grownBy (w.setCell a v) (some a.block) :=
 ⟨rfl, rfl, rfl, by simp [World.setCell], fun k _ hne => Below.heap_setCell _ _ _ _ (fun e => hne (by rw [e]))⟩
theorem grown_below {w w' : World} (h : Below w.heap.size w w') : w.grownBy w' none := ⟨h.os, h.tape, h.output, h.size, fun k hk _ => h.block k hk⟩

theorem WalkR.mono {L : Lies} {u : UniL} {w w' : World} {ro R : Nat → Nat} {iv ov fv : Value} {s : StL} (h : WalkR L u w ro R iv ov fv s) (hb : Below w.heap.size w w') : WalkR L u w' ro R iv ov fv s := by
 have l := h.left (ro' := ro) (r := 7) (grown_below hb) (h.below.trans (hb.mono h.below.size)) (by simp) (by omega) (fun _ _ => rfl)
 have l2 := h.left (ro' := ro) (r := 2) (grown_below hb) (h.below.trans (hb.mono h.below.size)) (by simp) (by omega) (fun _ _ => rfl)
 exact ⟨l.below, l.head (by omega), l.roW, h.lowW, l.memO (by omega), l.roM, l.outO (by omega), l.roO, l.frmO (by omega), l.roF, l2.regs (fun i _ => by omega), l.roR, h.lowR, h.inp, l.roT, l.cntT, fun k hk => l.cntR k hk (by omega), l.roC, h.lowC, l.ahd⟩
theorem WalkR.setW {L : Lies} {u : UniL} {w w' : World} {ro R : Nat → Nat} {iv ov fv iv' : Value} {s s' : StL} (h : WalkR L u w ro R iv ov fv s) (hg : w.grownBy w' (some L.W))
  (hh : w'.heap[L.W]? = some (.cells (headC L u iv' ov fv s') 148 (0, 0))) (hm : s'.mem = s.mem) (ho : s'.outs = s.outs) (hf : s'.frames = s.frames) (hc : s'.cnt = s.cnt)
  (hi : ∃ p c, iv' = .slice p s'.inp.length c ∧ s'.inp.length ≤ c ∧ (p = none → c = 0) ∧ SliceAt L.w0 1 IntR p s'.inp) : WalkR L u w' ro R iv' ov fv s' := by
 have l := h.left (ro' := ro) (r := 1) hg (h.below.grown hg h.below.size fun g e => by cases e; exact h.lowW) (fun b e => by cases e; exact h.roW) (by omega) (fun _ _ => rfl)
 exact ⟨l.below, hh, l.roW, h.lowW, by rw [hm]; exact l.memO (by omega), l.roM, by rw [ho]; exact l.outO (by omega), l.roO, by rw [hf]; exact l.frmO (by omega), l.roF, by rw [hf]; exact l.regs (fun i _ => by omega), by rw [hf]; exact l.roR, by rw [hf]; exact h.lowR, hi, l.roT, l.cntT, fun k hk => by rw [hc]; exact l.cntR k hk (by omega), l.roC, h.lowC, l.ahd⟩
theorem WalkR.setMem {L : Lies} {u : UniL} {w : World} {ro R : Nat → Nat} {iv ov fv : Value} {s : StL} (h : WalkR L u w ro R iv ov fv s) {M cap : Nat} (hv : L.mv = .slice (some ⟨M, 0, none⟩) s.mem.length cap) (j : Nat) (x : Int) :
  WalkR L u (w.setCell ⟨M, j, none⟩ (.int .i64 x)) ro R iv ov fv { s with mem := s.mem.set j x } := by
 have ho := h.memO
 rw [hv] at ho
 have hM : L.mv.ownBlock = some M := by rw [hv]; rfl
 obtain ⟨h1, hg⟩ := ho.stored j (.int .i64 x)
 have l := h.left (ro' := ro) (r := 2) hg (h.below.setCell (h.memO.lt M hM).1 _) (fun b e => by cases e; exact h.roM _ hM) (by omega) (fun _ _ => rfl)
 refine ⟨l.below, l.head (by omega), l.roW, h.lowW, ?_, l.roM, l.outO (by omega), l.roO, l.frmO (by omega), l.roF, l.regs (fun i _ => by omega), l.roR, h.lowR, h.inp, l.roT, l.cntT, fun k hk => l.cntR k hk (by omega), l.roC, h.lowC, l.ahd⟩
 show World.ownsRow _ _ _ _ _ (s.mem.set j x).length ((s.mem.set j x).map _)
 rw [List.length_set, List.map_set, hv]
 exact h1
theorem getD_set {l : List Int} {j i : Nat} {x : Int} (hj : j < l.length) : (l.set j x).getD i 0 = if i = j then x else l.getD i 0 := by
 by_cases e : i = j
 ·subst e
  simp [List.getD, hj]
 ·rw [if_neg e]
  simp only [List.getD, List.getElem?_set_ne (Ne.symm e)]
theorem WalkR.setReg {L : Lies} {u : UniL} {w : World} {ro R : Nat → Nat} {iv ov fv : Value} {s : StL} (h : WalkR L u w ro R iv ov fv s) {f : FrL} {rest : List FrL} (hs : s.frames = f :: rest) {j : Nat} (hj : j < f.regs.length) (x : Int) :
  WalkR L u (w.setCell ⟨R rest.length, j, none⟩ (.int .i64 x)) ro R iv ov fv { s with frames := { f with regs := f.regs.set j x } :: rest } := by
 have hlen : s.frames.length = rest.length + 1 := by rw [hs]; rfl
 have l := h.left (ro' := ro) (r := 5 + 2 * rest.length) (grown_set w ⟨R rest.length, j, none⟩ (.int .i64 x)) (h.below.setCell (h.lowR _ (by omega)) _) (fun b e => by cases e; exact h.roR _ (by omega)) (by omega) (fun _ _ => rfl)
 have e1 : frCells R ({ f with regs := f.regs.set j x } :: rest) = frCells R (f :: rest) := by unfold frCells; simp
 have hlen2 : ({ f with regs := f.regs.set j x } :: rest).length = s.frames.length := by rw [hlen]; rfl
 have hreg := h.regs
 rw [hs] at hreg
 refine ⟨l.below, l.head (by omega), l.roW, h.lowW, l.memO (by omega), l.roM, l.outO (by omega), l.roO, ?_, l.roF, ⟨?_, l.rest f rest hs rfl⟩, fun i hi => l.roR i (by rw [← hlen2]; exact hi), fun i hi => h.lowR i (by rw [← hlen2]; exact hi), h.inp, l.roT, l.cntT, fun k hk => l.cntR k hk (by omega), l.roC, h.lowC, l.ahd⟩
 ·have := l.frmO (by omega)
  rw [hs] at this
  show World.ownsRow _ _ _ _ _ _ (frCells R ({ f with regs := f.regs.set j x } :: rest))
  rw [e1]
  exact this
 ·have hr := hreg.1.set j (.int .i64 x)
  show World.rowIs _ _ _ (f.regs.set j x).length _
  rw [List.length_set]
  refine hr.congr fun i hi => ?_
  show _ = Value.int .i64 ((f.regs.set j x).getD i 0)
  rw [getD_set hj]
  split <;> rfl
theorem WalkR.setFr {L : Lies} {u : UniL} {w : World} {ro R : Nat → Nat} {iv ov fv : Value} {s : StL} (h : WalkR L u w ro R iv ov fv s) {f f' : FrL} {rest : List FrL} (hs : s.frames = f :: rest) {F cap o : Nat} {x : Value} (hv : fv = .slice (some ⟨F, 0, none⟩) s.frames.length cap)
  (hc : (frCells R (f :: rest)).set o x = frCells R (f' :: rest)) (hr : f'.regs = f.regs) :
  WalkR L u (w.setCell ⟨F, o, none⟩ x) ro R iv ov fv { s with frames := f' :: rest } := by
 have hlen : s.frames.length = rest.length + 1 := by rw [hs]; rfl
 have ho := h.frmO
 rw [hv] at ho
 have hF : fv.ownBlock = some F := by rw [hv]; rfl
 obtain ⟨h1, hg⟩ := ho.stored o x
 have l := h.left (ro' := ro) (r := 4) hg (h.below.setCell (h.frmO.lt F hF).1 _) (fun b e => by cases e; exact h.roF _ hF) (by omega) (fun _ _ => rfl)
 have hlen2 : (f' :: rest).length = s.frames.length := by rw [hlen]; rfl
 have hreg := l.regs (fun i _ => by omega)
 rw [hs] at hreg
 refine ⟨l.below, l.head (by omega), l.roW, h.lowW, l.memO (by omega), l.roM, l.outO (by omega), l.roO, ?_, l.roF, ⟨by rw [hr]; exact hreg.1, hreg.2⟩, fun i hi => l.roR i (by rw [← hlen2]; exact hi), fun i hi => h.lowR i (by rw [← hlen2]; exact hi), h.inp, l.roT, l.cntT, fun k hk => l.cntR k hk (by omega), l.roC, h.lowC, l.ahd⟩
 show World.ownsRow _ _ _ _ _ (f' :: rest).length (frCells R (f' :: rest))
 rw [hlen2, ← hc, hv, ← hs]
 exact h1
theorem WalkR.setCnt {L : Lies} {u : UniL} {w : World} {ro R : Nat → Nat} {iv ov fv : Value} {s : StL} (h : WalkR L u w ro R iv ov fv s) {k b : Nat} (hk : k < u.funcs.length) (x : Int) (hx : s.cnt k b + 1 = x) :
  WalkR L u (w.setCell ⟨L.C k, b, none⟩ (.int .i64 x)) ro R iv ov fv { s with cnt := bump s.cnt k b } := by
 have l := h.left (ro' := ro) (r := 6 + 2 * k) (grown_set w ⟨L.C k, b, none⟩ (.int .i64 x)) (h.below.setCell (h.lowC k hk) _) (fun g e => by cases e; exact h.roC _ hk) (by omega) (fun _ _ => rfl)
 refine ⟨l.below, l.head (by omega), l.roW, h.lowW, l.memO (by omega), l.roM, l.outO (by omega), l.roO, l.frmO (by omega), l.roF, l.regs (fun i _ => by omega), l.roR, h.lowR, h.inp, l.roT, l.cntT, fun j hj => ?_, l.roC, h.lowC, l.ahd⟩
 by_cases e : j = k
 ·subst e
  refine ((h.cntR j hj).set b (.int .i64 x)).congr fun y _ => ?_
  show _ = Value.int .i64 (bump s.cnt j b j y)
  unfold bump
  by_cases e : y = b
  ·subst e; simp [hx]
  ·simp [e]
 ·refine (l.cntR j hj (by omega)).congr fun y _ => ?_
  show _ = Value.int .i64 (bump s.cnt k b j y)
  unfold bump
  simp [e]
theorem WalkR.pop {L : Lies} {u : UniL} {w w' : World} {ro R : Nat → Nat} {iv ov fv : Value} {s : StL} (h : WalkR L u w ro R iv ov fv s) {f : FrL} {rest : List FrL} (hs : s.frames = f :: rest) {F cap : Nat} (hv : fv = .slice (some ⟨F, 0, none⟩) s.frames.length cap)
  (hg : w.grownBy w' (some L.W)) (hh : w'.heap[L.W]? = some (.cells (headC L u iv ov (.slice (some ⟨F, 0, none⟩) rest.length cap) s) 148 (0, 0))) :
  WalkR L u w' ro R iv ov (.slice (some ⟨F, 0, none⟩) rest.length cap) { s with frames := rest } := by
 have hlen : s.frames.length = rest.length + 1 := by rw [hs]; rfl
 have l := h.left (ro' := ro) (r := 1) hg (h.below.grown hg h.below.size fun g e => by cases e; exact h.lowW) (fun b e => by cases e; exact h.roW) (by omega) (fun _ _ => rfl)
 have hreg := l.regs (fun i _ => by omega)
 rw [hs] at hreg
 have hF : fv.ownBlock = some F := by rw [hv]; rfl
 refine ⟨l.below, hh, l.roW, h.lowW, l.memO (by omega), l.roM, l.outO (by omega), l.roO, ?_, fun g e => by cases e; exact l.roF _ hF, hreg.2, fun i hi => l.roR i (by rw [hlen]; exact Nat.lt_succ_of_lt hi), fun i hi => h.lowR i (by rw [hlen]; exact Nat.lt_succ_of_lt hi), h.inp, l.roT, l.cntT, fun k hk => l.cntR k hk (by omega), l.roC, h.lowC, l.ahd⟩
 have ho := l.frmO (by omega)
 rw [hv, hs] at ho
 exact ownsRow_pop (frCells_len R rest) ho
theorem WalkR.print {L : Lies} {u : UniL} {w w' w'' : World} {ro R : Nat → Nat} {iv ov ov' fv : Value} {s : StL} {x : Int} (h : WalkR L u w ro R iv ov fv s) (hg : w.grownBy w' ov.ownBlock)
  (ho : w'.ownsRow L.w0.heap.size 3 1 ov' (s.outs.length + 1) (s.outs.map (.int .i64) ++ [.int .i64 x])) (hv : ov'.ownBlock = ov.ownBlock ∨ ∀ g, ov'.ownBlock = some g → w.heap.size ≤ g)
  (hg2 : w'.grownBy w'' (some L.W)) (hh : w''.heap[L.W]? = some (.cells (headC L u iv ov' fv s) 148 (0, 0))) :
  WalkR L u w'' (fun k => if w.heap.size ≤ k then 3 else ro k) R iv ov' fv { s with outs := s.outs ++ [x] } := by
 have hlow : ∀ b, ov.ownBlock = some b → L.w0.heap.size ≤ b := fun b e => (h.outO.lt b e).1
 have hro : ∀ g, g < w.heap.size → (fun k => if w.heap.size ≤ k then 3 else ro k) g = ro g := fun g hgl => if_neg (by omega)
 have l := h.left (ro' := fun k => if w.heap.size ≤ k then 3 else ro k) (r := 3) hg (h.below.grown hg h.below.size hlow) (fun b e => h.roO b e) (by omega) hro
 have hroO : ∀ g, ov'.ownBlock = some g → (if w.heap.size ≤ g then 3 else ro g) = 3 := fun g e => by
  rcases hv with hv | hv
  ·exact l.roO g (by rw [← hv]; exact e)
  ·rw [if_pos (hv g e)]
 have hb2 : Below L.w0.heap.size L.w0 w'' := l.below.grown hg2 l.below.size fun g e => by cases e; exact h.lowW
 have hne : ∀ g y, (if w.heap.size ≤ g then 3 else ro g) = y → y ≠ 1 → some g ≠ some L.W := fun g y e e1 e2 => by
  cases e2
  have := l.roW
  exact e1 (e.symm.trans this)
 refine ⟨hb2, hh, l.roW, h.lowW, keep_own (l.memO (by omega)) hg2 fun g e => hne g _ (l.roM g e) (by omega), l.roM, ?_, hroO, keep_own (l.frmO (by omega)) hg2 fun g e => hne g _ (l.roF g e) (by omega), l.roF,
  (l.regs (fun i _ => by omega)).kept hg2 fun i hi => hne _ _ (l.roR i hi) (by omega), l.roR, h.lowR, h.inp, l.roT, fun k hk => hg2.cell (l.cntT k hk) (hne _ _ (l.roT k hk) (by omega)),
  fun k hk => (l.cntR k hk (by omega)).of_block (hg2.block _ (l.cntR k hk (by omega)).lt (hne _ _ (l.roC k hk) (by omega))), l.roC, h.lowC, l.ahd.kept hg2 (fun b e => by cases e; have := l.roW; omega) (fun _ _ => rfl)⟩
 show World.ownsRow _ _ _ _ _ (s.outs ++ [x]).length ((s.outs ++ [x]).map _)
 rw [List.length_append, List.map_append]
 exact keep_own ho hg2 fun g e => hne g _ (hroO g e) (by omega)
theorem WalkR.push {L : Lies} {u : UniL} {w w' w'' : World} {ro R : Nat → Nat} {iv ov fv fv' : Value} {s : StL} {f : FrL} {r : Nat} (h : WalkR L u w ro R iv ov fv s) (hg : w.grownBy w' fv.ownBlock)
  (hr : w'.rowIs r 3 f.regs.length (fun j => .int .i64 (f.regs.getD j 0))) (hr0 : w.heap.size ≤ r)
  (ho : w'.ownsRow L.w0.heap.size 181 5 fv' (s.frames.length + 1) (frCells R s.frames ++ [.int .i64 f.fn, .int .i64 f.block, .int .i64 f.pos, .slice (some ⟨r, 0, none⟩) f.regs.length f.regs.length, .int .i64 f.dst]))
  (hv : fv'.ownBlock = fv.ownBlock ∨ ∀ g, fv'.ownBlock = some g → w.heap.size ≤ g ∧ g ≠ r)
  (hg2 : w'.grownBy w'' (some L.W)) (hh : w''.heap[L.W]? = some (.cells (headC L u iv ov fv' s) 148 (0, 0))) :
  WalkR L u w'' (fun k => if k = r then 5 + 2 * s.frames.length else if w.heap.size ≤ k then 4 else ro k) (fun i => if i = s.frames.length then r else R i) iv ov fv' { s with frames := f :: s.frames } := by
 have hlow : ∀ b, fv.ownBlock = some b → L.w0.heap.size ≤ b := fun b e => (h.frmO.lt b e).1
 have hro : ∀ g, g < w.heap.size → (fun k => if k = r then 5 + 2 * s.frames.length else if w.heap.size ≤ k then 4 else ro k) g = ro g := fun g hgl => by
  show (if g = r then _ else _) = _
  rw [if_neg (by omega), if_neg (by omega)]
 have l := h.left (ro' := fun k => if k = r then 5 + 2 * s.frames.length else if w.heap.size ≤ k then 4 else ro k) (r := 4) hg (h.below.grown hg h.below.size hlow) (fun b e => h.roF b e) (by omega) hro
 have hroF : ∀ g, fv'.ownBlock = some g → (if g = r then 5 + 2 * s.frames.length else if w.heap.size ≤ g then 4 else ro g) = 4 := fun g e => by
  rcases hv with hv | hv
  ·exact l.roF g (by rw [← hv]; exact e)
  ·obtain ⟨h1, h2⟩ := hv g e
   rw [if_neg h2, if_pos h1]
 have hb2 : Below L.w0.heap.size L.w0 w'' := l.below.grown hg2 l.below.size fun g e => by cases e; exact h.lowW
 have hne : ∀ g y, (if g = r then 5 + 2 * s.frames.length else if w.heap.size ≤ g then 4 else ro g) = y → y ≠ 1 → some g ≠ some L.W := fun g y e e1 e2 => by
  cases e2
  have := l.roW
  exact e1 (e.symm.trans this)
 have hroR : (if r = r then 5 + 2 * s.frames.length else if w.heap.size ≤ r then 4 else ro r) = 5 + 2 * s.frames.length := if_pos rfl
 have hcong : ∀ i, i < s.frames.length → R i = if i = s.frames.length then r else R i := fun i hi => by rw [if_neg (by omega)]
 refine ⟨hb2, hh, l.roW, h.lowW, keep_own (l.memO (by omega)) hg2 fun g e => hne g _ (l.roM g e) (by omega), l.roM, keep_own (l.outO (by omega)) hg2 fun g e => hne g _ (l.roO g e) (by omega), l.roO, ?_, hroF,
  ⟨?_, ((l.regs (fun i _ => by omega)).kept hg2 fun i hi => hne _ _ (l.roR i hi) (by omega)).congr hcong⟩, fun i hi => ?_, fun i hi => ?_, h.inp, l.roT, fun k hk => hg2.cell (l.cntT k hk) (hne _ _ (l.roT k hk) (by omega)),
  fun k hk => (l.cntR k hk (by omega)).of_block (hg2.block _ (l.cntR k hk (by omega)).lt (hne _ _ (l.roC k hk) (by omega))), l.roC, h.lowC, l.ahd.kept hg2 (fun b e => by cases e; have := l.roW; omega) (fun _ _ => rfl)⟩
 ·show World.ownsRow _ _ _ _ _ (s.frames.length + 1) (frCells _ (f :: s.frames))
  unfold frCells
  rw [← frCells_congr s.frames hcong, if_pos rfl]
  exact keep_own ho hg2 fun g e => hne g _ (hroF g e) (by omega)
 ·show World.rowIs _ (if s.frames.length = s.frames.length then r else R s.frames.length) _ _ _
  rw [if_pos rfl]
  exact hr.of_block (hg2.block _ hr.lt (hne _ _ hroR (by omega)))
 ·show (if (if i = s.frames.length then r else R i) = r then _ else _) = _
  by_cases e : i = s.frames.length
  ·rw [if_pos e, if_pos rfl, e]
  ·rw [if_neg e]
   exact l.roR i (by simp at hi; omega)
 ·show _ ≤ if i = s.frames.length then r else R i
  by_cases e : i = s.frames.length
  ·rw [if_pos e]; have := h.below.size; omega
  ·rw [if_neg e]; exact h.lowR i (by simp at hi; omega)
end Go.Proofs.YtdjamkinijhjoaaDoor
