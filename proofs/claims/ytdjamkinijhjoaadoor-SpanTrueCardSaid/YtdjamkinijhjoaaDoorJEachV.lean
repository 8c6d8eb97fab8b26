/-
  Plain: which registers a function writes, and where; what it takes, and where.
  The contract of ssa's writes.
  A loop over an iterator whose elements come in a known order, where each round's variable is made anew in memory.
-/
import Derived.Test.YtdjamkinijhjoaaDoorJSsaA
import Derived.Test.YtdjamkinijhjoaaDoorJDomO
import Derived.Deep.LoopGhost
import Derived.WalkKit
import Derived.WalkSpells
import Derived.WalkLawsBesides
import Derived.Test.YtdjamkinijhjoaaDoorJDomF
namespace Go.Proofs.YtdjamkinijhjoaaDoor
open Go.RowKit

def flatI {α β : Type} (g : Nat → α → List β) : Nat → List α → List β
 | _, [] => []
 | k, x :: l => g k x ++ flatI g (k + 1) l
theorem flatI_append {α β : Type} (g : Nat → α → List β) : ∀ (l m : List α) (k : Nat), flatI g k (l ++ m) = flatI g k l ++ flatI g (k + l.length) m
 | [], m, k => by simp [flatI]
 | x :: l, m, k => by
  show g k x ++ flatI g (k + 1) (l ++ m) = (g k x ++ flatI g (k + 1) l) ++ _
  rw [flatI_append g l m (k + 1), List.append_assoc]
  have e : k + 1 + l.length = k + (x :: l).length := by simp; omega
  rw [e]
theorem flatI_take {α β : Type} (g : Nat → α → List β) {l : List α} {j : Nat} (h : j < l.length) : flatI g 0 (l.take (j + 1)) = flatI g 0 (l.take j) ++ g j l[j] := by
 rw [List.take_succ_eq_append_getElem h, flatI_append]
 have e : (l.take j).length = j := by simp; omega
 rw [e]
 simp [flatI]
theorem flatI_mem {α β : Type} {g : Nat → α → List β} {y : β} : ∀ {l : List α} {k : Nat}, y ∈ flatI g k l → ∃ j, ∃ h : j < l.length, y ∈ g (k + j) l[j]
 | [], _, h => by simp [flatI] at h
 | x :: l, k, h => by
  have h : y ∈ g k x ++ flatI g (k + 1) l := h
  rcases List.mem_append.1 h with h | h
  ·exact ⟨0, by simp, by simpa using h⟩
  ·obtain ⟨j, hj, h2⟩ := flatI_mem h
   refine ⟨j + 1, by simp; omega, ?_⟩
   have e : k + 1 + j = k + (j + 1) := by omega
   rw [e] at h2
   simpa using h2
theorem mem_flatI {α β : Type} {g : Nat → α → List β} {y : β} : ∀ {l : List α} {k j : Nat} (h : j < l.length), y ∈ g (k + j) l[j] → y ∈ flatI g k l
 | x :: l, k, 0, _, h => List.mem_append_left _ (by simpa using h)
 | x :: l, k, j + 1, hj, h => by
  refine List.mem_append_right _ (mem_flatI (j := j) (by simpa using hj) ?_)
  have e : k + 1 + j = k + (j + 1) := by omega
  rw [e]
  simpa using h

structure WrE where
 r : Nat
 b : Int
 a : Int
def wrStep (s : (Nat → Int × Int) × Bool) (e : WrE) : (Nat → Int × Int) × Bool := (wrPut s.1 e.r e.b e.a, decide ((s.1 e.r).1 < 0) && s.2)
def wrPhis (i : Nat) (ps : List PhiL) : List WrE := ps.map fun p => ⟨p.dst.toNat, i, -1⟩
def wrIns (i : Nat) (j : Nat) (x : InsL) : List WrE := if x.dst < 0 then [] else [⟨x.dst.toNat, i, j⟩]
def wrBlk (i : Nat) (b : BlkL) : List WrE := wrPhis i b.phis ++ flatI (wrIns i) 0 b.list
def wrPar (k : Nat) : List WrE := (List.range k).map fun r => ⟨r, 0, -1⟩
def wrAll (f : FunL) : List WrE := wrPar f.params.toNat ++ flatI wrBlk 0 f.blocks
def wr0 (_ : Nat) : Int × Int := (-1, -1)
def wrF' (f : FunL) : (Nat → Int × Int) × Bool := (wrAll f).foldl wrStep (wr0, true)
theorem wrPar_succ (k : Nat) : wrPar (k + 1) = wrPar k ++ [⟨k, 0, -1⟩] := by unfold wrPar; rw [List.range_succ]; simp

structure FunR' (f : FunL) : Prop extends FunS f where
 par : 0 ≤ f.params ∧ f.params ≤ f.regs
 reg : f.regs ≤ 100
 phi : ∀ b (h : b < f.blocks.length), ∀ p ∈ f.blocks[b].phis, PhiOk f b p
 ins : ∀ b (h : b < f.blocks.length), ∀ x ∈ f.blocks[b].list, 1 ≤ x.op ∧ x.op ≤ 22 ∧ x.dst < f.regs ∧ ValOk f.regs x.ar x.an ∧ ValOk f.regs x.br x.bn ∧ ∀ v ∈ x.args, ValOk f.regs v.1 v.2
 on : ∀ b (h : b < f.blocks.length), ValOk f.regs f.blocks[b].fin.onr f.blocks[b].fin.onn
theorem ChkOk.funR {u : UniL} (h : ChkOk u) {k : Nat} (hk : k < u.funcs.length) : FunR' u.funcs[k] := by
 obtain ⟨⟨h1, _⟩, ⟨h3, h4⟩, _⟩ := h.fn hk
 refine { h.funS hk with par := ⟨h1, h3⟩, reg := h4, phi := fun b hb p hp => ?_, ins := fun b hb x hx => ?_, on := fun b hb => ?_ }
 ·exact phiL_zero ((bodyE_blk (h.bodyZ hk) hb).1 p hp)
 ·have hi := insL_zero ((bodyE_blk (h.bodyZ hk) hb).2 x hx)
  have := hi.dst
  exact ⟨hi.op.1, hi.op.2, by omega, hi.a, hi.b, hi.arg⟩
 ·exact (endL_zero (bodyE_end (h.bodyZ hk) hb)).on
def WrOk (n : Nat) (wb : Nat → Int × Int) : Prop := ∀ r, (wb r).1 < n
theorem WrOk.put {n : Nat} {wb : Nat → Int × Int} (h : WrOk n wb) {r : Nat} {b a : Int} (hb : b < n) : WrOk n (wrPut wb r b a) := fun i => by
 unfold wrPut
 split
 ·exact hb
 ·exact h i
theorem wrOk_fold {n : Nat} : ∀ (L : List WrE) {s : (Nat → Int × Int) × Bool}, WrOk n s.1 → (∀ e ∈ L, e.b < n) → WrOk n (L.foldl wrStep s).1
 | [], _, h, _ => h
 | e :: L, _, h, hL => wrOk_fold L (h.put (hL e List.mem_cons_self)) fun x hx => hL x (List.mem_cons_of_mem _ hx)
theorem wrBlk_b {i : Nat} {b : BlkL} {e : WrE} (h : e ∈ wrBlk i b) : e.b = i := by
 unfold wrBlk at h
 rcases List.mem_append.1 h with h | h
 ·obtain ⟨p, _, rfl⟩ := List.mem_map.1 h; rfl
 ·obtain ⟨j, _, h⟩ := flatI_mem h
  unfold wrIns at h
  split at h
  ·cases h
  ·rw [List.mem_singleton.1 h]
theorem wrF_ok {f : FunL} (hn : 0 < f.blocks.length) : WrOk f.blocks.length (wrF' f).1 := by
 refine wrOk_fold _ (fun r => by show (-1 : Int) < _; omega) fun e he => ?_
 unfold wrAll at he
 rcases List.mem_append.1 he with h | h
 ·unfold wrPar at h
  obtain ⟨r, _, rfl⟩ := List.mem_map.1 h
  show (0 : Int) < _; omega
 ·obtain ⟨j, hj, h⟩ := flatI_mem h
  rw [wrBlk_b h]
  omega

def takes (x : InsL) : List (Bool × Int) := (if shA x.op = true then [(x.ar, x.an)] else []) ++ (if shB x.op = true then [(x.br, x.bn)] else []) ++ x.args

structure UsE where
 vr : Bool
 vn : Int
 b : Nat
 a : Int
def useFrom (f : FunL) (i : Nat) (j : Nat) (v : Bool × Int) : List UsE := [⟨v.1, v.2, (insN f i).getD j 0, ((f.blocks[(insN f i).getD j 0]?.map fun b => b.list.length).getD 0 : Nat)⟩]
def usePhi (f : FunL) (i : Nat) (p : PhiL) : List UsE := flatI (useFrom f i) 0 p.src
def useIns (i j : Nat) (x : InsL) : List UsE := (takes x).map fun v => ⟨v.1, v.2, i, (j : Nat)⟩
def useBlk (f : FunL) (i : Nat) (b : BlkL) : List UsE := b.phis.flatMap (usePhi f i) ++ flatI (useIns i) 0 b.list ++ [⟨b.fin.onr, b.fin.onn, i, (b.list.length : Nat)⟩]
def useAll (f : FunL) : List UsE := flatI (useBlk f) 0 f.blocks
def knE (wb : Nat → Int × Int) (u : Nat → Int) (pl : Nat → Nat) (e : UsE) : Bool := knB wb u pl e.vr e.vn e.b e.a
def usesF (wb : Nat → Int × Int) (u : Nat → Int) (pl : Nat → Nat) (f : FunL) : Bool := (useAll f).all (knE wb u pl)
theorem usesF_false {wb : Nat → Int × Int} {u : Nat → Int} {pl : Nat → Nat} {f : FunL} {e : UsE} (h : e ∈ useAll f) (hk : knE wb u pl e = false) : usesF wb u pl f = false := by
 unfold usesF
 rw [List.all_eq_false]
 exact ⟨e, h, by simp [hk]⟩
theorem usesF_true {wb : Nat → Int × Int} {u : Nat → Int} {pl : Nat → Nat} {f : FunL} (h : ∀ e ∈ useAll f, knE wb u pl e = true) : usesF wb u pl f = true := by
 unfold usesF
 rw [List.all_eq_true]
 exact h
theorem mem_useAll {f : FunL} {k : Nat} (hk : k < f.blocks.length) {e : UsE} (h : e ∈ useBlk f k f.blocks[k]) : e ∈ useAll f := mem_flatI (k := 0) hk (by rw [Nat.zero_add]; exact h)
theorem mem_usePhi {f : FunL} {k : Nat} {b : BlkL} {j : Nat} (hj : j < b.phis.length) {e : UsE} (h : e ∈ usePhi f k b.phis[j]) : e ∈ useBlk f k b :=
 List.mem_append_left _ (List.mem_append_left _ (List.mem_flatMap.2 ⟨_, List.getElem_mem hj, h⟩))
theorem mem_useIns {f : FunL} {k : Nat} {b : BlkL} {j : Nat} (hj : j < b.list.length) {e : UsE} (h : e ∈ useIns k j b.list[j]) : e ∈ useBlk f k b :=
 List.mem_append_left _ (List.mem_append_right _ (mem_flatI (k := 0) hj (by rw [Nat.zero_add]; exact h)))
theorem mem_useFrom {f : FunL} {k : Nat} {p : PhiL} {j : Nat} (hj : j < p.src.length) : (⟨p.src[j].1, p.src[j].2, (insN f k).getD j 0, ((f.blocks[(insN f k).getD j 0]?.map fun b => b.list.length).getD 0 : Nat)⟩ : UsE) ∈ usePhi f k p :=
 mem_flatI (k := 0) hj (by rw [Nat.zero_add]; exact List.mem_singleton.2 rfl)
theorem all_next {α : Type} {g : Nat → α → List UsE} {Q : UsE → Prop} {l : List α} {j : Nat} (hj : j < l.length) (h : ∀ e ∈ flatI g 0 (l.take j), Q e) (h2 : ∀ e ∈ g j l[j], Q e) : ∀ e ∈ flatI g 0 (l.take (j + 1)), Q e := fun e he => by
 rw [flatI_take _ hj] at he
 rcases List.mem_append.1 he with he | he
 ·exact h e he
 ·exact h2 e he
theorem all_nextM {α : Type} {g : α → List UsE} {Q : UsE → Prop} {l : List α} {j : Nat} (hj : j < l.length) (h : ∀ e ∈ (l.take j).flatMap g, Q e) (h2 : ∀ e ∈ g l[j], Q e) : ∀ e ∈ (l.take (j + 1)).flatMap g, Q e := fun e he => by
 rw [List.take_succ_eq_append_getElem hj, List.flatMap_append] at he
 rcases List.mem_append.1 he with he | he
 ·exact h e he
 ·exact h2 e (by simpa using he)
end Go.Proofs.YtdjamkinijhjoaaDoor
namespace Go.Proofs.YtdjamkinijhjoaaDoor
open Go.RowKit

theorem wrPhis_take {i : Nat} {ps : List PhiL} {s : (Nat → Int × Int) × Bool} {j : Nat} (h : j < ps.length) : ((wrPhis i ps).take (j + 1)).foldl wrStep s = wrStep (((wrPhis i ps).take j).foldl wrStep s) ⟨ps[j].dst.toNat, i, -1⟩ := by
 have h2 : j < (wrPhis i ps).length := by unfold wrPhis; simpa using h
 have e : (wrPhis i ps)[j] = ⟨ps[j].dst.toNat, i, -1⟩ := by simp [wrPhis]
 rw [List.take_succ_eq_append_getElem h2, List.foldl_append, e]
 rfl
theorem wrBlk_fold {i : Nat} {b : BlkL} {s : (Nat → Int × Int) × Bool} : (wrBlk i b).foldl wrStep s = (flatI (wrIns i) 0 b.list).foldl wrStep ((wrPhis i b.phis).foldl wrStep s) := by
 unfold wrBlk; rw [List.foldl_append]
def CkBox (w : World) (C : Nat) (f : FunL) (fp : Option Addr) (fc U B : Nat) : Prop :=
 w.heap[C]? = some (.cells #[.string f.name, .int .i64 f.params, .int .i64 f.regs, .slice fp f.blocks.length fc, .slice (some ⟨U, 0, none⟩) f.blocks.length f.blocks.length, .slice (some ⟨B, 0, none⟩) f.regs.toNat f.regs.toNat] 124 (0, 0))

set_option maxRecDepth 100000 in
set_option maxHeartbeats 2000000 in
theorem writes_any (f : FunL) (fp : Option Addr) (fc C U B : Nat) (w0 w : World) (hS : FunR' f) (hF : SliceAt w0 6 (BlkR w0) fp f.blocks) (h0 : Below w0.heap.size w0 w) (hB0 : w0.heap.size ≤ B) (hCB : C ≠ B)
  (hbox : CkBox w C f fp fc U B) (hR : w.rowIs B 122 (f.regs.toNat * 2) (wrF wr0)) :
  Calls Tryd.prog 57 #[.pointer (some ⟨C, 0, none⟩)] w fun e w' => e = .returned (.bool (wrF' f).2) ∧ w'.rowIs B 122 (f.regs.toNat * 2) (wrF (wrF' f).1) ∧ Kept (fun k => k = B) w w' := by
 have HF := hidI hF
 have HS := hidI hS
 have H0 := hidI h0
 have HX := hidI hbox
 have HR0 := hidI hR
 obtain ⟨hp1, hp2⟩ := hS.par
 have hr100 := hS.reg
 have n40 := hS.n40
 have hzC := ltHeap hbox
 have hzB := hR.lt
 obtain ⟨P, hP⟩ : ∃ P : Nat, f.params = P := ⟨f.params.toNat, by omega⟩
 have hKB : ∀ W, Kept (fun k => k = B) w W → Below w0.heap.size w0 W := fun W hK => H0.out.trans (hK.below H0.out.size fun i hi => by omega)
 have hKX : ∀ W, Kept (fun k => k = B) w W → W.cell? ⟨C, 1, none⟩ = some (.int .i64 f.params) ∧ W.cell? ⟨C, 3, none⟩ = some (.slice fp f.blocks.length fc) ∧ W.cell? ⟨C, 5, none⟩ = some (.slice (some ⟨B, 0, none⟩) f.regs.toNat f.regs.toNat) := fun W hK => by
  have h := (hK.block C hzC hCB).trans HX.out
  exact ⟨(blk h).1 1, (blk h).1 3, (blk h).1 5⟩
 have HKB := hidI hKB
 have HKX := hidI hKX
 obtain ⟨x1, x3, x5⟩ := hKX _ (Kept.refl _ w)
 rw [hP] at x1
 have hPR : P ≤ f.regs.toNat := by omega
 have hR100 : f.regs.toNat ≤ 100 := by omega
 have HP := hidI hP
 clear hF hS h0 hbox hR hKB hKX hP
 go_enter Tryd.func57, Tryd.ntmps57
 go_wp2_with fail
 go_loopg [16, 3] P (fun q s16 s3 wr => ∃ k : Nat, k ≤ P ∧ q = P - k ∧ s16 = .int .i64 k ∧ s3 = .bool ((wrPar k).foldl wrStep (wr0, true)).2 ∧ wr.rowIs B 122 (f.regs.toNat * 2) (wrF ((wrPar k).foldl wrStep (wr0, true)).1) ∧ Kept (fun k => k = B) w wr)
 case atStart => exact ⟨0, by omega, rfl, rfl, rfl, HR0.out, Kept.refl _ _⟩
 case round =>
  obtain ⟨k, hk, rfl, rfl, rfl, hR, hK⟩ := hrel
  have HK := hidI hK
  clear hK x1 x3 x5 HR0
  obtain ⟨x1, x3, x5⟩ := HKX.out _ HK.out
  rw [HP.out] at x1
  by_cases hlt : k < P
  ·have hs := congrArg (List.foldl wrStep (wr0, true)) (wrPar_succ k)
   rw [List.foldl_append] at hs
   have HSt := hidI hs
   clear hs
   generalize (wrPar k).foldl wrStep (wr0, true) = st at *
   obtain ⟨wb, ok⟩ := st
   have HW := hidI (write_any C B f.regs.toNat k 0 (-1) wb wr (by omega) (by omega) x5 hR)
   clear hR
   have hst2 : (wrPar (k + 1)).foldl wrStep (wr0, true) = (wrPut wb k 0 (-1), decide ((wb k).1 < 0) && ok) := HSt.out
   have HSt2 := hidI hst2
   clear hst2 HSt
   by_cases hw : (wb k).1 < 0
   all_goals
    have hd : decide ((wb k).1 < 0) = (decide ((wb k).1 < 0)) := rfl
    first | rw [decide_eq_true hw] at HW HSt2 | rw [decide_eq_false hw] at HW HSt2
    have HWx := hidI hw
    clear hw hd
    go_wp2_with fail
    refine HW.out.mono ?_
    rintro e w2 ⟨rfl, hR2, hK2⟩
    have HR2 := hidI hR2
    have HK2 := hidI (HK.out.trans hK2 (fun _ _ h => h))
    clear hR2 hK2
    go_wp2_with fail
    go_roundg (P - (k + 1))
    case measure => omega
    case rel => exact ⟨k + 1, by omega, rfl, by go_num, by rw [HSt2.out]; rfl, by rw [HSt2.out]; exact HR2.out, HK2.out⟩
  ·obtain rfl : k = P := by omega
   have hst0 : (wrPar k).foldl wrStep (wr0, true) = (wrPar k ++ flatI wrBlk 0 (f.blocks.take 0)).foldl wrStep (wr0, true) := by simp [flatI]
   have HSt0 := hidI hst0
   rw [hst0] at hR ⊢
   have HR := hidI hR
   clear hR hst0
   go_wp2_with fail
   clear x1 x3 x5
   obtain ⟨wp, rfl⟩ : ∃ wp : World, wp = wr := ⟨_, rfl⟩
   go_loopg [32, 3] f.blocks.length (fun q s32 s3 wr => ∃ m : Nat, m ≤ f.blocks.length ∧ q = f.blocks.length - m ∧ s32 = .int .i64 m ∧ s3 = .bool ((wrPar k ++ flatI wrBlk 0 (f.blocks.take m)).foldl wrStep (wr0, true)).2 ∧ wr.rowIs B 122 (f.regs.toNat * 2) (wrF ((wrPar k ++ flatI wrBlk 0 (f.blocks.take m)).foldl wrStep (wr0, true)).1) ∧ Kept (fun k => k = B) w wr)
   case atStart => exact ⟨0, by omega, rfl, rfl, rfl, HR.out, HK.out⟩
   case round =>
    clear HR HK HSt0
    obtain ⟨m, hm, rfl, rfl, rfl, hR, hK⟩ := hrel
    have HK := hidI hK
    have hszK := hK.size
    clear hK
    by_cases hlt : m < f.blocks.length
    ·have hs : (wrPar k ++ flatI wrBlk 0 (f.blocks.take (m + 1))).foldl wrStep (wr0, true) = (wrBlk m f.blocks[m]).foldl wrStep ((wrPar k ++ flatI wrBlk 0 (f.blocks.take m)).foldl wrStep (wr0, true)) := by
      rw [flatI_take _ hlt, ← List.append_assoc, List.foldl_append]
     rw [wrBlk_fold] at hs
     have HSt := hidI hs
     clear hs
     generalize (wrPar k ++ flatI wrBlk 0 (f.blocks.take m)).foldl wrStep (wr0, true) = st at *
     obtain ⟨b3, o3, q1, c1, q2, c2, q3, c3, hp, d0, d1, d2, d3, d4, d5, _, _, hl1, hl2, _, hs1, hs2, _⟩ := blkGet HF.out (Below.refl _ _) hlt
     have g : ∀ o v, w0.cell? ⟨b3, o, none⟩ = some v → wr.cell? ⟨b3, o, none⟩ = some v := fun o v h => ((HKB.out _ HK.out).cell (p := ⟨b3, o, none⟩) (lt_of_cell h)).trans h
     replace d0 := g _ _ d0
     replace d1 := g _ _ d1
     replace d2 := g _ _ d2
     replace d3 := g _ _ d3
     replace d4 := g _ _ d4
     replace d5 := g _ _ d5
     clear g
     have hphi := HS.out.phi m hlt
     have hins := HS.out.ins m hlt
     subst hp
     generalize f.blocks[m] = bm at *
     have HPhi := hidI (show ∀ j (h : j < bm.phis.length), 0 ≤ bm.phis[j].dst ∧ bm.phis[j].dst < f.regs from fun j h => (hphi _ (List.getElem_mem h)).dst)
     have HIns := hidI (show ∀ j (h : j < bm.list.length), bm.list[j].dst < f.regs from fun j h => (hins _ (List.getElem_mem h)).2.2.1)
     have HS1 := hidI hs1
     have HS2 := hidI hs2
     have HR := hidI hR
     clear hphi hins hs1 hs2 hR
     go_wp2_with fail
     obtain ⟨Wb, hWb⟩ : ∃ Wb, Wb = wr.alloc (.cells #[.slice q1 bm.phis.length c1, .slice q2 bm.list.length c2, .int .i64 bm.fin.kind, .bool bm.fin.onr, .int .i64 bm.fin.onn, .slice q3 bm.fin.to.length c3] 50) := ⟨_, rfl⟩
     rw [← hWb]
     have HKW : Hid (Kept (fun k => k = B) w Wb) := hidI (by rw [hWb]; exact HK.out.alloc _)
     have HRW : Hid (Wb.rowIs B 122 (f.regs.toNat * 2) (wrF st.1)) := hidI (by rw [hWb]; exact HR.out.alloc _)
     have hBX : Wb.heap[wr.heap.size]? = some (.cells #[.slice q1 bm.phis.length c1, .slice q2 bm.list.length c2, .int .i64 bm.fin.kind, .bool bm.fin.onr, .int .i64 bm.fin.onn, .slice q3 bm.fin.to.length c3] 50 (0, 0)) := by rw [hWb]; exact heap_here wr _
     have hneB : ¬ wr.heap.size = B := by omega
     have HBX := hidI hBX
     have hzW := ltHeap hBX
     clear hWb hBX d0 d1 d2 d3 d4 d5 HR
     obtain ⟨wo, rfl⟩ : ∃ wo : World, wo = wr := ⟨_, rfl⟩
     go_loopg [40, 3] bm.phis.length (fun q s40 s3 wr => ∃ j : Nat, j ≤ bm.phis.length ∧ q = bm.phis.length - j ∧ s40 = .int .i64 j ∧ s3 = .bool (((wrPhis m bm.phis).take j).foldl wrStep st).2 ∧ wr.rowIs B 122 (f.regs.toNat * 2) (wrF (((wrPhis m bm.phis).take j).foldl wrStep st).1) ∧ Kept (fun k => k = B) Wb wr)
     case atStart => exact ⟨0, by omega, rfl, rfl, rfl, HRW.out, Kept.refl _ _⟩
     case round =>
      obtain ⟨j, hj, rfl, rfl, rfl, hR, hK⟩ := hrel
      have HKr : Hid (Kept (fun k => k = B) w wr) := hidI (HKW.out.trans hK (fun _ _ h => h))
      have HKb := hidI hK
      clear hK
      by_cases hjl : j < bm.phis.length
      ·have hs : ((wrPhis m bm.phis).take (j + 1)).foldl wrStep st = wrStep (((wrPhis m bm.phis).take j).foldl wrStep st) ⟨bm.phis[j].dst.toNat, m, -1⟩ := wrPhis_take hjl
       have HSj := hidI hs
       clear hs
       generalize ((wrPhis m bm.phis).take j).foldl wrStep st = sj at *
       obtain ⟨wb, ok⟩ := sj
       obtain ⟨pb, po, qs, cs, hpp, e0, e1, _, hl1, _⟩ := phiGet HS1.out (HKB.out _ HKr.out) hjl
       subst hpp
       obtain ⟨hd1, hd2⟩ := HPhi.out j hjl
       generalize bm.phis[j] = ph at *
       obtain ⟨d, hd⟩ : ∃ d : Nat, ph.dst = d := ⟨ph.dst.toNat, by omega⟩
       rw [hd] at e0 hd2
       have HSt2 : Hid (((wrPhis m bm.phis).take (j + 1)).foldl wrStep st = (wrPut wb d m (-1), decide ((wb d).1 < 0) && ok)) := hidI (HSj.out.trans (by rw [hd]; rfl))
       obtain ⟨x1, x3, x5⟩ := HKX.out _ HKr.out
       clear hd1 hd HSj x1 x3
       have HW := hidI fun o => write_any C B f.regs.toNat d m (-1) wb (wr.alloc o) (by omega) (by omega) ((World.cell?_of_block (Below.heap_alloc wr o _ (lt_of_cell x5))).trans x5) (hR.alloc o)
       clear hR x5
       by_cases hw : (wb d).1 < 0
       all_goals
        first | rw [decide_eq_true hw] at HW HSt2 | rw [decide_eq_false hw] at HW HSt2
        have HWx := hidI hw
        clear hw
        go_wp2_with fail
        refine (HW.out _).mono ?_
        rintro e w2 ⟨rfl, hR2, hK2⟩
        have HR2 := hidI hR2
        have HK2 := hidI ((HKb.out.alloc (.cells #[.int .i64 d, .slice qs ph.src.length cs] 78)).trans hK2 (fun _ _ h => h))
        clear hR2 hK2
        go_wp2_with fail
        go_roundg (bm.phis.length - (j + 1))
        case measure => omega
        case rel => exact ⟨j + 1, by omega, rfl, by go_num, by rw [HSt2.out]; rfl, by rw [HSt2.out]; exact HR2.out, HK2.out⟩
      ·obtain rfl : j = bm.phis.length := by omega
       have e1 : (wrPhis m bm.phis).take bm.phis.length = wrPhis m bm.phis := List.take_of_length_le (by unfold wrPhis; simp)
       rw [e1] at hR ⊢
       have hst1 : (wrPhis m bm.phis).foldl wrStep st = (flatI (wrIns m) 0 (bm.list.take 0)).foldl wrStep ((wrPhis m bm.phis).foldl wrStep st) := by simp [flatI]
       have hfin : (wrPar k ++ flatI wrBlk 0 (f.blocks.take (m + 1))).foldl wrStep (wr0, true) = (flatI (wrIns m) 0 bm.list).foldl wrStep ((wrPhis m bm.phis).foldl wrStep st) := HSt.out
       have HFin := hidI hfin
       have HSt1 := hidI hst1
       generalize (wrPhis m bm.phis).foldl wrStep st = s1 at *
       rw [hst1] at hR ⊢
       have HR := hidI hR
       have b1 := (blk ((HKb.out.block _ hzW hneB).trans HBX.out)).1 1
       have bz := ltHeap ((HKb.out.block _ hzW hneB).trans HBX.out)
       clear hst1 hR hfin HSt e1 HRW
       go_wp2_with fail
       clear b1
       obtain ⟨wq, rfl⟩ : ∃ wq : World, wq = wr := ⟨_, rfl⟩
       go_loopg [56, 3] bm.list.length (fun q s56 s3 wr => ∃ j : Nat, j ≤ bm.list.length ∧ q = bm.list.length - j ∧ s56 = .int .i64 j ∧ s3 = .bool ((flatI (wrIns m) 0 (bm.list.take j)).foldl wrStep s1).2 ∧ wr.rowIs B 122 (f.regs.toNat * 2) (wrF ((flatI (wrIns m) 0 (bm.list.take j)).foldl wrStep s1).1) ∧ Kept (fun k => k = B) w wr)
       case atStart => exact ⟨0, by omega, rfl, rfl, rfl, HR.out, HKr.out⟩
       case round =>
        clear HR HKr HKb bz HSt1
        obtain ⟨i, hi, rfl, rfl, rfl, hR, hK⟩ := hrel
        have HKr := hidI hK
        clear hK
        by_cases hil : i < bm.list.length
        ·have hs : (flatI (wrIns m) 0 (bm.list.take (i + 1))).foldl wrStep s1 = (wrIns m i bm.list[i]).foldl wrStep ((flatI (wrIns m) 0 (bm.list.take i)).foldl wrStep s1) := by
          rw [flatI_take _ hil, List.foldl_append]
         have HSj := hidI hs
         clear hs
         generalize (flatI (wrIns m) 0 (bm.list.take i)).foldl wrStep s1 = sj at *
         obtain ⟨wb, ok⟩ := sj
         obtain ⟨pb, po, qs, cs, hpp, e0, e1, e2, e3, e4, e5, e6, e7, _⟩ := insGet HS2.out (HKB.out _ HKr.out) hil
         subst hpp
         have hdr := HIns.out i hil
         generalize bm.list[i] = x at *
         by_cases hx : x.dst < 0
         ·have HSt2 : Hid ((flatI (wrIns m) 0 (bm.list.take (i + 1))).foldl wrStep s1 = (wb, ok)) := hidI (HSj.out.trans (by unfold wrIns; rw [if_pos hx]; rfl))
          have HR := hidI hR
          clear HSj hR hdr
          cases ok
          all_goals
           go_wp2_with fail
           go_roundg (bm.list.length - (i + 1))
           case measure => omega
           case rel => exact ⟨i + 1, by omega, rfl, by go_num, by rw [HSt2.out], by rw [HSt2.out]; exact HR.out.alloc _, HKr.out.alloc _⟩
         ·obtain ⟨d, hd⟩ : ∃ d : Nat, x.dst = d := ⟨x.dst.toNat, by omega⟩
          have HSt2 : Hid ((flatI (wrIns m) 0 (bm.list.take (i + 1))).foldl wrStep s1 = (wrPut wb d m i, decide ((wb d).1 < 0) && ok)) := hidI (HSj.out.trans (by unfold wrIns; rw [if_neg hx, hd]; rfl))
          rw [hd] at e1 hdr hx
          obtain ⟨x1, x3, x5⟩ := HKX.out _ HKr.out
          clear hd HSj x1 x3 hx
          have HW := hidI fun o => write_any C B f.regs.toNat d m i wb (wr.alloc o) (by omega) (by omega) ((World.cell?_of_block (Below.heap_alloc wr o _ (lt_of_cell x5))).trans x5) (hR.alloc o)
          clear hR x5
          by_cases hw : (wb d).1 < 0
          all_goals
           first | rw [decide_eq_true hw] at HW HSt2 | rw [decide_eq_false hw] at HW HSt2
           have HWx := hidI hw
           clear hw
           go_wp2_with fail
           refine (HW.out _).mono ?_
           rintro e w2 ⟨rfl, hR2, hK2⟩
           have HR2 := hidI hR2
           have HK2 := hidI ((HKr.out.alloc _).trans hK2 (fun _ _ h => h))
           clear hR2 hK2
           go_wp2_with fail
           go_roundg (bm.list.length - (i + 1))
           case measure => omega
           case rel => exact ⟨i + 1, by omega, rfl, by go_num, by rw [HSt2.out]; rfl, by rw [HSt2.out]; exact HR2.out, HK2.out⟩
        ·obtain rfl : i = bm.list.length := by omega
         rw [List.take_length, ← HFin.out] at hR ⊢
         have HR := hidI hR
         clear hR
         go_wp2_with fail
         go_roundg (f.blocks.length - (m + 1))
         case measure => omega
         case rel => exact ⟨m + 1, by omega, rfl, by go_num, rfl, HR.out, HKr.out⟩
    ·obtain rfl : m = f.blocks.length := by omega
     rw [List.take_length] at hR ⊢
     have e : (wrPar k ++ flatI wrBlk 0 f.blocks).foldl wrStep (wr0, true) = wrF' f := by
      unfold wrF' wrAll
      rw [HP.out]
      rfl
     rw [e] at hR ⊢
     have HR := hidI hR
     clear hR e
     go_wp2_with fail
     go_ret
     exact ⟨rfl, HR.out, HK.out⟩
end Go.Proofs.YtdjamkinijhjoaaDoor
namespace Go.Proofs.YtdjamkinijhjoaaDoor
open Go.RowKit Go.Shelf

section
variable {F : Fence} {n : Nat} {P : Program} {g : Operand} {ps : Array Tmp} {assign body : Code} {Q : Exit → Act → World → Prop} {a : Act} {w : World} {gf : Nat} {lb : Array Value} {el : Nat → Array Value} {N : Nat} {Kp : World → World → Prop} {w0 : World}
theorem wpIn_rangeAtA (hro : F.round = none) (h1 : 1 ≤ n) (hg : a.eval g = .func (.func gf) #[] lb) (hFg : F.fn gf) (eg : ∀ args w, (callFunc gf args).run P w = .ok (.enter gf args) w) (hseq : SeqAt F (n - 1) P gf lb el N Kp w0)
  (hKt : ∀ {A B C : World}, Kp A B → Kp B C → Kp A C) (hKb : ∀ (W : World) (l : Nat) (o o' : Obj), w.heap.size ≤ l → W.heap[l]? = some o → o.isCells = false → o.isWalk = false → Kp W (W.putObj l o')) (hb0 : Below w0.heap.size w0 w) (hps : ∀ i, i < N → (el i).size = ps.size)
  (I : Nat → World → Prop) (Ix : Code → Nat → World → Prop) (hI : OwnFrom w.heap.size I) (hIx : ∀ c, OwnFrom w.heap.size (Ix c)) (h0 : I 0 w) (M : Nat × Act → World → Prop) (hM : OwnFrom w.heap.size M)
  (hassign : ∀ (l i : Nat) (W : World) (K : Act → World → Prop), w.heap.size ≤ l → i < N → I i W → (∀ a₁ W₁, M (i, a₁) W₁ → KeepsFrom w.heap.size W W₁ → Kp W W₁ → K a₁ W₁) → assign.wpIn (F.inRound l) (n - 1 - 1) P (Exit.then K (fun _ _ _ => False)) { tmps := (ps.zip (el i)).foldl (fun t (p, v) => t.setIfInBounds p v) a.tmps, defers := [] } W)
  (hbody : ∀ (l i : Nat) (a₁ : Act) (W : World), w.heap.size ≤ l → i < N → M (i, a₁) W → body.wpIn (F.inRound l) (n - 1 - 1) P (fun e _ W' => roundPost w.heap.size Kp I Ix i W e W') a₁ W)
  (hdone : ∀ (D : Nat) (W : World), w.heap.size ≤ D → I N W → W.heap[D]? = some (.deferred (some [])) → Q .normal { a with defers := { target := .collected D, args := #[] } :: a.defers } W)
  (hstop : ∀ (D : Nat) (c : Code) (i : Nat) (W : World), w.heap.size ≤ D → i < N → Ix c i W → W.heap[D]? = some (.deferred (some [])) → c.wpIn F n P Q { a with defers := { target := .collected D, args := #[] } :: a.defers } W) :
  (Code.rangeFunc g ps assign body).wpIn F n P Q a w := by
 refine wpIn_rangeFunc fun fn hfn => ?_
 rw [hro]
 -- the record of the loop and the block for what rounds defer: the blocks L and D
 obtain ⟨rec, hrec⟩ : ∃ rec : LoopState → Option Code → Loop, rec = fun st pe => { state := st, pending := pe, fn, tmps := a.tmps, params := ps, assign, body, defers := w.heap.size } := ⟨_, rfl⟩
 have hst : ∀ st pe, { rec .ready none with state := st, pending := pe } = rec st pe := fun st pe => by rw [hrec]
 let Bk : LoopState → Option Code → World → Prop := fun st pe W => W.heap[w.heap.size + 1]? = some (.loop (rec st pe)) ∧ W.heap[w.heap.size]? = some (.deferred (some []))
 have hBk0 : Bk .ready none ((w.alloc (.deferred (some []))).alloc (.loop (rec .ready none))) :=
  ⟨heap_at (by simp), heap_step (heap_here w _)⟩
 have hBkg : ∀ {st pe A B row}, Bk st pe A → A.grownBy B row → (∀ r, row = some r → ∃ o : Obj, A.heap[r]? = some o ∧ o.isWalk = true) → Bk st pe B := fun h hg hr =>
  ⟨(grownBy_keeps hg hr h.1 rfl).trans h.1, (grownBy_keeps hg hr h.2 rfl).trans h.2⟩
 have hBkp : ∀ {st pe st' pe' A}, Bk st pe A → Bk st' pe' (A.putObj (w.heap.size + 1) (.loop (rec st' pe'))) := fun {st pe st' pe' A} h =>
  ⟨World.putObj_heap_same (ltHeap h.1), (World.putObj_heap_other (by omega)).trans h.2⟩
 obtain ⟨W1, hW1⟩ : ∃ W1, W1 = (w.alloc (.deferred (some []))).alloc (.loop (rec .ready none)) := ⟨_, rfl⟩
 rw [← hW1] at hBk0
 have hz1 : W1.heap.size = w.heap.size + 1 + 1 := by rw [hW1]; simp
 have hent : (Instr.enterLoop fn a.tmps ps assign body none).run P w = .ok (w.heap.size + 1, [{ target := .collected w.heap.size, args := #[] }]) W1 := by
  rw [hW1, hrec]; exact run_enterLoop_outer _ _ _ _ _
 refine ⟨w.heap.size + 1, [{ target := .collected w.heap.size, args := #[] }], W1, { target := .fn (.func gf) lb, args := #[.func (.yield (w.heap.size + 1)) #[] #[]] }, W1, gf,
  #[.func (.yield (w.heap.size + 1)) #[] #[]] ++ lb, W1, hent, ?_, fun f' hf' => by simp [Target.leads] at hf'; subst hf'; exact hFg, ?_, fun _ => h1, ?_⟩
 ·simp only [resolve, hg]
  simp [go_sem]
 ·simp [invoke, go_sem, eg]
 have hwalk : ∀ {A : World} {row : Option Nat}, (∀ r, row = some r → W1.heap.size ≤ r ∧ ∃ o : Obj, A.heap[r]? = some o ∧ o.isWalk = true) → ∀ r, row = some r → w.heap.size ≤ r ∧ ∃ o : Obj, A.heap[r]? = some o ∧ o.isCells = false := fun hr r e => by
  obtain ⟨hB, o, ho, hw⟩ := hr r e
  exact ⟨by omega, o, ho, Obj.not_cells_of_walk hw⟩
 refine (hseq (w.heap.size + 1) (fun i W => I i W ∧ Bk .ready none W) (fun i W => ∃ c, Ix c i W ∧ Bk .done (some c) W) _
  (by rw [hW1]; exact hb0.trans ((((Below.refl _ w).alloc (Nat.le_refl _) _).alloc (by simp) _).mono hb0.size))
  (fun s A B row hs hg' hr => ⟨hI s A B row hs.1 hg' (hwalk hr), hBkg hs.2 hg' fun r e => (hr r e).2⟩)
  (fun s A B row ⟨c, hc, hk⟩ hg' hr => ⟨c, hIx c s A B row hc hg' (hwalk hr), hBkg hk hg' fun r e => (hr r e).2⟩)
  (fun i W hlt ⟨hi, hk⟩ => ?_) ⟨by rw [hW1]; exact hI.alloc _ (hI.alloc _ h0), hBk0⟩).mono ?_
 ·have hy := run_yield (P := P) (args := el i) hk.1 (by rw [hrec]; exact hps i hlt)
  rw [hrec] at hy
  refine ⟨fn, _, assign, body, hy, roundIn_of_wpIn hfn (hassign _ i W _ (by omega) hlt hi fun a₁ W₁ hm1 hkf hkp => ?_)⟩
  replace hk : Bk .ready none W₁ := ⟨hkf.same _ _ (by omega) hk.1 rfl, hkf.same _ _ (Nat.le_refl _) hk.2 rfl⟩
  refine ⟨_, run_beginRound hk.1 (by rw [hrec]), ?_⟩
  rw [show ({ rec .ready none with state := .busy } : Loop) = rec .busy none by rw [hrec]]
  have hkb := hBkp (st' := .busy) (pe' := none) hk
  refine wpIn_mono (hbody _ i a₁ _ (by omega) hlt (hM.putObj _ hm1 (by omega) hk.1 rfl)) fun e a3 W3 ⟨hk3, hp⟩ => ?_
  have hb3 : Bk .busy none W3 := ⟨hk3.same _ _ (by omega) hkb.1 rfl, hk3.same _ _ (Nat.le_refl _) hkb.2 rfl⟩
  have fin : ∀ jump : Option Code, (Instr.endRound (w.heap.size + 1) jump).run P W3 = .ok (.bool jump.isNone) (W3.putObj (w.heap.size + 1) (.loop (rec (if jump.isNone then .ready else .done) jump))) := fun jump => by
   have := run_endRound (P := P) jump hb3.1
   rw [hrec] at this ⊢
   exact this
  have leave : ∀ c : Code, Ix c i W3 → _ := fun c hc => (⟨.bool false, W3.putObj (w.heap.size + 1) (.loop (rec .done (some c))), fin (some c), .inr ⟨rfl, c, (hIx c).putObj _ hc (by omega) hb3.1 rfl, hBkp hb3⟩⟩ : ∃ v W4, (Instr.endRound (w.heap.size + 1) (some c)).run P W3 = .ok v W4 ∧ ((Ending.returned v = .returned (.bool true) ∧ (I (i + 1) W4 ∧ Bk .ready none W4) ∧ Kp W W4) ∨ (Ending.returned v = .returned (.bool false) ∧ ∃ c, Ix c i W4 ∧ Bk .done (some c) W4)))
  cases e with
  | normal =>
   exact ⟨_, _, fin none, .inl ⟨rfl, ⟨hI.putObj _ hp.2 (by omega) hb3.1 rfl, hBkp hb3⟩, hKt (hKt (hKt hkp (hKb _ _ _ _ (by omega) hk.1 rfl rfl)) hp.1) (hKb _ _ _ _ (by omega) hb3.1 rfl rfl)⟩⟩
  | ret => exact leave _ hp
  | exit id => exact leave _ hp
  | goto t => exact leave _ hp
  | panic ch => exact hp.elim
  | outgrown => exact hp.elim
 ·have shut : ∀ {st pe W2}, st ≠ .busy → Bk st pe W2 → (Instr.endLoop (w.heap.size + 1)).run P W2 = .ok pe (W2.putObj (w.heap.size + 1) (.loop (rec .exhausted pe))) := fun {st pe W2} hne hk => by
   have := run_endLoop (P := P) hk.1 (by rw [hrec]; exact hne)
   rw [hrec] at this ⊢
   exact this
  rintro e W2 ⟨⟨v, rfl⟩, (⟨hi, hk⟩ | ⟨i, hlt, c, hi, hk⟩)⟩
  ·exact ⟨none, _, shut (by simp) hk, hdone _ _ (Nat.le_refl _) (hI.putObj _ hi (by omega) hk.1 rfl) (hBkp hk).2⟩
  ·exact ⟨some c, _, shut (by simp) hk, hstop _ c i _ (Nat.le_refl _) hlt ((hIx c).putObj _ hi (by omega) hk.1 rfl) (hBkp hk).2⟩
end
end Go.Proofs.YtdjamkinijhjoaaDoor
