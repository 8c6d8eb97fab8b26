/-
  The contract of calls.CopyFunc.
  The contract of calls.Copy.
  Plain: an instruction of a function of the call's own taken out, and put back another one.
  A unit of the call's own of which the lists of instructions are replaced, one by one: where all lies, and what is read whatever is written there.
-/
import Derived.Deep.DeepCutAuto
import Derived.Outline
import Derived.WalkKit
import Derived.WalkSpells
import Derived.WalkLawsBesides
import Derived.Test.YtdjamkinijhjoaaDoorJSsaA
import Derived.Test.YtdjamkinijhjoaaDoorJCopB
import Derived.Test.YtdjamkinijhjoaaDoorJRunS
namespace Go.Proofs.YtdjamkinijhjoaaDoor
open Go.RowKit Go.Shelf

theorem infoBlkC : (Tryd.prog.info? 50).map (fun i => (i.zero, i.size, i.bytes)) = some (some (.agg #[.slice none 0 0, .slice none 0 0, .int .i64 0, .bool false, .int .i64 0, .slice none 0 0]), 6, 96) := by kernel_rfl

theorem BlkO.tight {w : World} {cs : List Value} {x : BlkL} {T : Blks} (h : BlkO w cs x T) : ∃ T', BlkO w cs x T' ∧ InB w T' ∧ ∀ k, T' k → T k := by
 obtain ⟨v1, v2, v3, S1, S2, S3, h0, h1, h2, h3, h4, h5, a1, a2, a3, g1, g2, g3⟩ := h
 refine ⟨fun k => S1 k ∨ S2 k ∨ S3 k, ⟨v1, v2, v3, S1, S2, S3, h0, h1, h2, h3, h4, h5, a1, a2, a3, fun _ h => .inl h, fun _ h => .inr (.inl h), fun _ h => .inr (.inr h)⟩, ?_, ?_⟩
 ·rintro k (h | h | h)
  ·exact h3.sl.inb k h
  ·exact h4.sl.inb k h
  ·exact h5.sl.inb k h
 ·rintro k (h | h | h)
  ·exact g1 k h
  ·exact g2 k h
  ·exact g3 k h

end Go.Proofs.YtdjamkinijhjoaaDoor
namespace Go.Proofs.YtdjamkinijhjoaaDoor
open Go.RowKit Go.Shelf

theorem infoGloC : (Tryd.prog.info? 90).map (fun i => (i.zero, i.size, i.bytes)) = some (some (.agg #[.string { data := #[] }, .int .i64 0, .slice none 0 0]), 3, 48) := by kernel_rfl
theorem infoFunC : (Tryd.prog.info? 37).map (fun i => (i.zero, i.size, i.bytes)) = some (some (.agg #[.string { data := #[] }, .int .i64 0, .int .i64 0, .slice none 0 0]), 4, 56) := by kernel_rfl
def UniO : ElemO UniL := fun w cs x S => ∃ v1 v2 S1 S2, cs = [v1, v2] ∧ SlQ 90 3 48 GloO w v1 x.globals S1 ∧ SlQ 37 4 56 FunO w v2 x.funcs S2 ∧ Apart S1 S2 ∧ (∀ k, S1 k → S k) ∧ ∀ k, S2 k → S k
theorem UniO.read {w : World} {cs : List Value} {x : UniL} {S : Blks} (h : UniO w cs x S) : UniR w cs x := by
 obtain ⟨v1, v2, S1, S2, h0, h1, h2, _⟩ := h
 exact ⟨v1, v2, h0, h1.read locGlo (by omega) fun _ _ _ h => h.read, h2.read locFun (by omega) fun _ _ _ h => h.read⟩

end Go.Proofs.YtdjamkinijhjoaaDoor
namespace Go.Proofs.YtdjamkinijhjoaaDoor
open Go.RowKit

theorem SlW.cell {α : Type} {e : TypeId} {size : Nat} {R : ElemO α} {w : World} {v : Value} {xs : List α} {S : Blks} {cs : Nat → List Value} {T : Nat → Blks} (h : SlW e size R w v xs S cs T) {i : Nat} (hi : i < xs.length) : ∃ g c, v = .slice (some ⟨g, 0, none⟩) xs.length c ∧ S g ∧ g < w.heap.size ∧ ∀ j, j < size → w.cell? ⟨g, i * size + j, none⟩ = (cs i)[j]? := by
 rcases h.own.2 with ⟨_, h2⟩ | ⟨g, cap, cur, hv, _, hg, _, _, _, htk⟩
 ·omega
 refine ⟨g, cap, hv, h.blk g (by rw [hv]; rfl), (Array.getElem?_eq_some_iff.1 hg).1, fun j hj => ?_⟩
 rw [cell_of_row w g _ cur e (0, 0) hg]
 have hlt : i * size + j < xs.length * size := by
  have : (i + 1) * size ≤ xs.length * size := Nat.mul_le_mul_right _ hi
  rw [Nat.add_mul] at this
  omega
 rw [← flat_get xs.length h.len i j hi hj, ← htk, List.getElem?_take_of_lt hlt, Array.getElem?_toList]

def putL (b : BlkL) (l : List InsL) : BlkL := { b with list := l }
def setI (f : FunL) (m j : Nat) (i : InsL) : FunL := { f with blocks := f.blocks.modify m fun b => putL b (b.list.set j i) }
theorem setI_list {f : FunL} {m j : Nat} {i : InsL} (hm : m < f.blocks.length) : f.blocks.modify m (fun b => putL b (b.list.set j i)) = f.blocks.set m (putL f.blocks[m] (f.blocks[m].list.set j i)) := by
 refine List.ext_getElem (by simp) fun k h1 h2 => ?_
 have h3 : k < f.blocks.length := by simpa using h1
 rw [List.getElem_modify, List.getElem_set]
 split
 ·next e => subst e; rfl
 ·rfl

theorem FunO.ins {w : World} {cs : List Value} {f : FunL} {T : Blks} (h : FunO w cs f T) {m j : Nat} (hm : m < f.blocks.length) (hj : j < f.blocks[m].list.length) : ∃ bb cb lb c2 ci Ti, cs = [.string f.name, .int .i64 f.params, .int .i64 f.regs, .slice (some ⟨bb, 0, none⟩) f.blocks.length cb] ∧
  w.cell? ⟨bb, m * 6 + 1, none⟩ = some (.slice (some ⟨lb, 0, none⟩) f.blocks[m].list.length c2) ∧ T bb ∧ T lb ∧ lb ≠ bb ∧ InsO w ci f.blocks[m].list[j] Ti ∧ ¬ Ti lb ∧ ¬ Ti bb ∧ (∀ k, Ti k → T k) ∧ (∀ jj, jj < 8 → w.cell? ⟨lb, j * 8 + jj, none⟩ = ci[jj]?) ∧ ci.length = 8 ∧ (∀ o, w.frozen? ⟨lb, o, none⟩ = false) ∧ (∃ cur, w.heap[lb]? = some (.cells cur 53 (0, 0))) ∧
  ∀ (w' : World) (ci' : List Value) (i' : InsL) (Ti' : Blks), RowPut w w' 53 lb (j * 8) 8 ci' → ci'.length = 8 → (∀ u ∈ ci', u.oneCell' = true) → w.heap.size ≤ w'.heap.size → (∀ k, T k → ¬ Ti k → k ≠ lb → w'.heap[k]? = w.heap[k]?) →
   InsO w' ci' i' Ti' → (∀ k, Ti' k → (Ti k ∨ w.heap.size ≤ k) ∧ k < w'.heap.size) → FunO w' cs (setI f m j i') (fun k => T k ∨ Ti' k) := by
 obtain ⟨v, hcs, hnm, i1, i2, hB⟩ := h
 obtain ⟨bb, cb, cB, TB, hv, hbs, hTb, hlB, hBlk, hnb, hTB, hcB, hfB, ⟨curB, hcurB⟩, hput⟩ := hB.sl.focus locBlk (by omega) hm
 obtain ⟨v1, v2, v3, S1, S2, S3, rfl, j1, j2, h3, h4, h5, a1, a2, a3, g1, g2, g3⟩ := hBlk
 obtain ⟨lb, c2, ci, Ti, hv2, hls, hSl, hli, hI, hnl, hTi, hci, hfi, hcur, hput2⟩ := h4.sl.focus locIns (by omega) hj
 subst hv hv2
 have hne : lb ≠ bb := fun e => hnb (g2 _ (by rw [← e]; exact hSl))
 refine ⟨bb, cb, lb, c2, ci, Ti, hcs, (hcB 1 (by omega)), hTb, hTB _ (g2 _ hSl), hne, hI, hnl, fun h => hnb (g2 _ (hTi _ h)), fun k hk => hTB _ (g2 _ (hTi _ hk)), hci, hli, hfi, hcur, ?_⟩
 intro w' ci' i' Ti' hp hl' h1' hs hk hI' hT'
 have e1 : ∀ k, T k → ¬ Ti k → k ≠ lb → w'.heap[k]? = w.heap[k]? := hk
 have hL := hput2 w' ci' i' Ti' hp hl' h1' hs (fun k hk1 hk2 hk3 => e1 k (hTB _ (g2 _ hk1)) hk2 hk3) hI' hT'
 have hlen : (f.blocks[m].list.set j i').length = f.blocks[m].list.length := by simp
 have h1n : ∀ k, S1 k → w'.heap[k]? = w.heap[k]? := fun k hk => e1 k (hTB _ (g1 _ hk)) (fun h => a1 _ hk (hTi _ h)) (fun e => a1 _ hk (by rw [e]; exact hSl))
 have h3n : ∀ k, S3 k → w'.heap[k]? = w.heap[k]? := fun k hk => e1 k (hTB _ (g3 _ hk)) (fun h => a3 _ (hTi _ h) hk) (fun e => a3 _ hSl (by rw [← e]; exact hk))
 have hbbn : w'.heap[bb]? = w.heap[bb]? := e1 bb hTb (fun h => hnb (g2 _ (hTi _ h))) (fun e => hne e.symm)
 have hB' : BlkO w' [v1, .slice (some ⟨lb, 0, none⟩) f.blocks[m].list.length c2, .int .i64 f.blocks[m].fin.kind, .bool f.blocks[m].fin.onr, .int .i64 f.blocks[m].fin.onn, v3] (putL f.blocks[m] (f.blocks[m].list.set j i')) (fun k => TB k ∨ Ti' k) := by
  refine ⟨v1, _, v3, S1, fun k => S2 k ∨ Ti' k, S3, rfl, j1, j2, h3.loc locPhi (fun _ g => g) h1n hs, ⟨?_, by show (f.blocks[m].list.set j i').length * 80 ≤ _; rw [hlen]; exact h4.bd⟩, h5.loc locInt (fun _ g => g) h3n hs, fun k x y => ?_, a2, fun k x y => ?_, fun k x => .inl (g1 k x), fun k x => ?_, fun k x => .inl (g3 k x)⟩
  ·exact hL
  ·rcases y with y | y
   ·exact a1 k x y
   ·rcases (hT' k y).1 with z | z
    ·exact a1 k x (hTi _ z)
    ·have := h3.sl.inb k x; omega
  ·rcases x with x | x
   ·exact a3 k x y
   ·rcases (hT' k x).1 with z | z
    ·exact a3 k (hTi _ z) y
    ·have := h5.sl.inb k y; omega
  ·rcases x with x | x
   ·exact .inl (g2 k x)
   ·exact .inr x
 have hblen : (f.blocks.set m (putL f.blocks[m] (f.blocks[m].list.set j i'))).length = f.blocks.length := by simp
 have hF := hput w' _ (putL f.blocks[m] (f.blocks[m].list.set j i')) (fun k => TB k ∨ Ti' k) (RowPut.same hcurB hbbn hcB) hlB (fun u hu => ?_) hs (fun k hk1 hk2 hk3 => e1 k hk1 (fun h => hk2 (g2 _ (hTi _ h))) (fun e => hk2 (by rw [e]; exact g2 _ hSl))) hB' (fun k hk => ?_)
 ·refine ⟨.slice (some ⟨bb, 0, none⟩) f.blocks.length cb, hcs, hnm, i1, i2, ⟨?_, ?_⟩⟩
  ·show SlO _ _ _ _ _ (f.blocks.modify m _) _
   rw [setI_list hm]
   exact hF.grow (fun k hk => hk.elim .inl fun x => x.elim (fun x => .inl (hTB _ x)) .inr) (fun k hk => by
    rcases hk with x | x
    ·exact Nat.lt_of_lt_of_le (hB.sl.inb k x) hs
    ·exact (hT' k x).2)
  ·show (f.blocks.modify m _).length * 96 ≤ _
   rw [setI_list hm, hblen]
   exact hB.bd
 ·obtain ⟨q1, d1, rfl, _⟩ := h3.sl.val
  obtain ⟨q3, d3, rfl, _⟩ := h5.sl.val
  simp only [List.mem_cons, List.not_mem_nil, or_false] at hu
  rcases hu with rfl | rfl | rfl | rfl | rfl | rfl <;> rfl
 ·rcases hk with x | x
  ·exact ⟨.inl x, Nat.lt_of_lt_of_le (hB.sl.inb k (hTB k x)) hs⟩
  ·refine ⟨?_, (hT' k x).2⟩
   rcases (hT' k x).1 with z | z
   ·exact .inl (g2 _ (hTi _ z))
   ·exact .inr z
end Go.Proofs.YtdjamkinijhjoaaDoor
namespace Go.Proofs.YtdjamkinijhjoaaDoor
open Go.RowKit

def InsC (A : Blks) (W : World) (cs : List Value) (i : InsL) : Prop := ∃ v, cs = [.int .i64 i.op, .int .i64 i.dst, .bool i.ar, .int .i64 i.an, .bool i.br, .int .i64 i.bn, .int .i64 i.fn, v] ∧
 I64 i.op ∧ I64 i.dst ∧ I64 i.an ∧ I64 i.bn ∧ I64 i.fn ∧ ∀ W', Kept A W W' → SlF W' 2 16 ValR v i.args
theorem InsC.read {A : Blks} {W W' : World} {cs : List Value} {i : InsL} (h : InsC A W cs i) (hk : Kept A W W') : InsR W' cs i := by
 obtain ⟨v, h1, h2, h3, h4, h5, h6, h7⟩ := h
 exact ⟨v, h1, h2, h3, h4, h5, h6, h7 W' hk⟩
def InsE (A : Blks) (W : World) : ElemO InsL := fun _ cs x S => InsC A W cs x ∧ ∀ g, ¬ S g
theorem locInsE (A : Blks) (W : World) : LocO (InsE A W) := fun _ _ _ _ _ h _ _ => h
structure BlkN (A : Blks) (W : World) (bb m : Nat) (x : BlkL) (v1 v2 v3 : Value) : Prop where
 cell : ∀ j, j < 6 → W.cell? ⟨bb, m * 6 + j, none⟩ = [v1, v2, .int .i64 x.fin.kind, .bool x.fin.onr, .int .i64 x.fin.onn, v3][j]?
 k64 : I64 x.fin.kind
 n64 : I64 x.fin.onn
 phi : ∀ W', Kept A W W' → SlF W' 2 32 (PhiR W') v1 x.phis
 tos : ∀ W', Kept A W W' → SlF W' 1 8 IntR v3 x.fin.to
 val : ∃ p c, v2 = .slice p x.list.length c ∧ (p = none → x.list.length = 0 ∧ c = 0) ∧ x.list.length ≤ c
 lst : ∀ j (h : j < x.list.length), ∃ lb c cs, v2 = .slice (some ⟨lb, 0, none⟩) x.list.length c ∧ lb < W.heap.size ∧ ¬ A lb ∧ cs.length = 8 ∧ (∀ i, i < 8 → W.cell? ⟨lb, j * 8 + i, none⟩ = cs[i]?) ∧ InsC A W cs x.list[j]
structure FunN (A : Blks) (W : World) (G k : Nat) (bb : Nat) (f : FunL) : Prop where
 cell : ∃ cb, f.blocks.length ≤ cb ∧ ∀ j, j < 4 → W.cell? ⟨G, k * 4 + j, none⟩ = [.string f.name, .int .i64 f.params, .int .i64 f.regs, .slice (some ⟨bb, 0, none⟩) f.blocks.length cb][j]?
 name : f.name.size ≤ reachBytes
 p64 : I64 f.params
 r64 : I64 f.regs
 bd : f.blocks.length * 96 ≤ reachBytes
 inA : A bb
 lt : bb < W.heap.size
 froz : ∀ o, W.frozen? ⟨bb, o, none⟩ = false
 blk : ∀ m (h : m < f.blocks.length), ∃ v1 v2 v3, BlkN A W bb m f.blocks[m] v1 v2 v3
structure UniN (A : Blks) (W : World) (G : Nat) (bb : Nat → Nat) (fs : List FunL) : Prop where
 g : G < W.heap.size
 gA : ¬ A G
 inj : ∀ k k', k < fs.length → k' < fs.length → bb k = bb k' → k = k'
 isA : ∀ g, A g → g < W.heap.size
 fn : ∀ k (h : k < fs.length), FunN A W G k (bb k) fs[k]
theorem SlQ.stay {α : Type} {e : TypeId} {size bytes : Nat} {R : ElemO α} {R' : World → List Value → α → Prop} {A : Blks} {W : World} {v : Value} {xs : List α} {S T : Blks} (hR : LocO R) (hsz : 0 < size) (h : SlQ e size bytes R W v xs S) (hs : ∀ k, S k → T k) (hT : ∀ k, T k → k < W.heap.size ∧ ¬ A k) (hr : ∀ w cs x T, R w cs x T → R' w cs x) :
  ∀ W', Kept A W W' → SlF W' size bytes (R' W') v xs := fun W' hk =>
 (h.loc hR hs (fun k hk2 => hk.block k (hT k hk2).1 (hT k hk2).2) hk.size).read hR hsz (hr W')
def bbW (W : World) (G k : Nat) : Nat := match W.cell? ⟨G, k * 4 + 3, none⟩ with | some (.slice (some a) _ _) => a.block | _ => 0
def aW (W : World) (G n : Nat) (B : Blks) : Blks := fun g => (∃ k, k < n ∧ g = bbW W G k) ∨ B g
theorem uniN_of {W : World} {v : Value} {fs : List FunL} {S : Blks} (h : SlO 37 4 FunO W v fs S) (h0 : 0 < fs.length) (hb : ∀ k (h : k < fs.length), 0 < fs[k].blocks.length) (B : Blks) (hB : ∀ k, S k → ¬ B k) (hBl : ∀ k, B k → k < W.heap.size) :
  ∃ G c, v = .slice (some ⟨G, 0, none⟩) fs.length c ∧ UniN ((aW W G fs.length B)) W G (bbW W G) fs ∧ S G ∧ ∀ k, k < fs.length → S (bbW W G k) := by
 obtain ⟨cs, T, h⟩ := h
 obtain ⟨G, c, hv, hSG, hGlt, _⟩ := h.cell h0
 have hcell : ∀ k, k < fs.length → ∀ j, j < 4 → W.cell? ⟨G, k * 4 + j, none⟩ = (cs k)[j]? := fun k hk j hj => by
  obtain ⟨G', c', hv', _, _, hc⟩ := h.cell hk
  have : G' = G := by rw [hv] at hv'; injection hv' with a; injection a with a; injection a with a; exact a.symm
  subst this
  exact hc j hj
 -- each function's array of blocks
 have hbb : ∀ k (hk : k < fs.length), ∃ cb, cs k = [.string fs[k].name, .int .i64 fs[k].params, .int .i64 fs[k].regs, .slice (some ⟨bbW W G k, 0, none⟩) fs[k].blocks.length cb] ∧ T k (bbW W G k) := fun k hk => by
  obtain ⟨v2, he, _, _, _, hq⟩ := h.el k hk
  obtain ⟨cs2, T2, h2⟩ := hq.sl
  obtain ⟨g, cb, hv2, hSg, _, _⟩ := h2.cell (hb k hk)
  have e : bbW W G k = g := by
   unfold bbW
   rw [hcell k hk 3 (by omega), he, hv2]
   rfl
  rw [e]
  exact ⟨cb, by rw [he, hv2], hSg⟩
 have hTA : ∀ k (hk : k < fs.length) g, T k g → ((aW W G fs.length B) g → g = bbW W G k) := fun k hk g hg ha => by
  rcases ha with ⟨k', hk', rfl⟩ | ha
  rotate_left
  ·exact absurd ha (hB g (h.sub k hk g hg))
  by_cases e : k' = k
  ·rw [e]
  ·exact absurd hg (h.two k' k hk' hk e _ (hbb k' hk').choose_spec.2)
 refine ⟨G, c, hv, ⟨hGlt, fun ha => ?_, fun k k' hk hk' e => ?_, fun g hg => ?_, fun k hk => ?_⟩, hSG, fun k hk => h.sub k hk _ (hbb k hk).choose_spec.2⟩
 ·rcases ha with ⟨k, hk, e⟩ | ha
  ·exact h.off k hk G (by rw [hv]; rfl) (by rw [e]; exact (hbb k hk).choose_spec.2)
  ·exact hB G hSG ha
 ·by_cases e2 : k = k'
  ·exact e2
  ·exact absurd (by rw [e]; exact (hbb k' hk').choose_spec.2) (h.two k k' hk hk' e2 _ (hbb k hk).choose_spec.2)
 ·rcases hg with ⟨k, hk, rfl⟩ | hg
  ·exact h.inb _ (h.sub k hk _ (hbb k hk).choose_spec.2)
  ·exact hBl g hg
 ·obtain ⟨cb, hcs, hTb⟩ := hbb k hk
  obtain ⟨v2, he, hnm, hp, hr, hq⟩ := h.el k hk
  have hv2 : v2 = .slice (some ⟨bbW W G k, 0, none⟩) fs[k].blocks.length cb := by
   rw [hcs] at he
   injection he with _ he
   injection he with _ he
   injection he with _ he
   injection he with he _
   exact he.symm
  subst hv2
  have hfoc := hq.sl.focus locBlk (by omega) (hb k hk)
  obtain ⟨g', _, _, _, hv', _, _, _, _, _, _, _, hfr, _⟩ := hfoc
  have eg : g' = bbW W G k := by injection hv' with a; injection a with a; injection a with a; exact a.symm
  subst eg
  obtain ⟨cs2, T2, h2⟩ := hq.sl
  have hcb : fs[k].blocks.length ≤ cb := by
   obtain ⟨p5, c5, e5, _, h5⟩ := hq.sl.val
   injection e5 with _ _ e6
   omega
  refine ⟨⟨cb, hcb, fun j hj => by rw [hcell k hk j hj, hcs]⟩, hnm, hp, hr, hq.bd, .inl ⟨k, hk, rfl⟩, h.inb _ (h.sub k hk _ hTb), hfr, fun m hm => ?_⟩
  obtain ⟨v1, w2, v3, S1, S2, S3, hce, hk64, hn64, q1, q2, q3, a12, a13, a23, s1, s2, s3⟩ := h2.el m hm
  obtain ⟨g3, c3, hv3, _, _, hc3⟩ := h2.cell hm
  have e3 : g3 = bbW W G k := by injection hv3 with a; injection a with a; injection a with a; exact a.symm
  subst e3
  have hT2 : ∀ g, T2 m g → g < W.heap.size ∧ ¬ (aW W G fs.length B) g := fun g hg => by
   have hTk := h2.sub m hm g hg
   refine ⟨h2.inb g hTk, fun ha => ?_⟩
   have e := hTA k hk g hTk ha
   exact h2.off m hm _ rfl (by rw [← e]; exact hg)
  refine ⟨v1, w2, v3, fun j hj => by rw [hc3 j hj, hce], hk64, hn64, q1.stay locPhi (by omega) s1 hT2 (fun _ _ _ _ hh => hh.read), q3.stay locInt (by omega) s3 hT2 (fun _ _ _ _ hh => hh), ?_, fun j hj => ?_⟩
  ·obtain ⟨p, c, hpv, hpn, hpc⟩ := q2.sl.val
   exact ⟨p, c, hpv, hpn, hpc⟩
  ·obtain ⟨cs4, T4, h4⟩ := q2.sl
   obtain ⟨lb, lc, hlv, hSl, hll, hcl⟩ := h4.cell hj
   obtain ⟨va, hva, y1, y2, y3, y4, y5, hargs⟩ := h4.el j hj
   exact ⟨lb, lc, cs4 j, hlv, hll, (hT2 lb (s2 lb hSl)).2, h4.len j hj, hcl, va, hva, y1, y2, y3, y4, y5, hargs.stay locVal (by omega) (h4.sub j hj) (fun g hg => hT2 g (s2 g hg)) (fun _ _ _ _ hh => hh)⟩
end Go.Proofs.YtdjamkinijhjoaaDoor
