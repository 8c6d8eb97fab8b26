/-
  append([]T(nil), x...) in the middle of a walk: a copy in memory of the call's own.
  The contract of turneryref5.CloneBlock.
-/
import Derived.Laws.AppendOwnNone
import Derived.WalkKit
import Derived.WalkSpells
import Derived.WalkLawsBesides
import Derived.Test.YtdjamkinijhjoaaDoorJWatA
namespace Go.Proofs.YtdjamkinijhjoaaDoor
open Go.RowKit

theorem wpList_copy {α : Type} {P : Program} {R : List Value → α → Prop} {RO : ElemO α} {w : World} {ops : Array Oper} {rest : List Oper} {o : Oper} {a : Act} {Q : Exit → Act → World → Prop} (hgd : o.guard = none) (s x : Operand) (t : TypeId)
  (ho : o.op = .call { callee := .builtin .append, args := #[s, x], argTypes := #[t, t] }) (hs : a.eval s = .slice none 0 0)
  (e : TypeId) (i : TypeInfo) (z : Value) (size bytes : Nat) (ht : P.underlying t = some (.slice e)) (hi : P.info? e = some i) (hz : i.zero = some z) (hsize : i.size = size) (hby : i.bytes = bytes) (hzs : z.cells.size = size) (hsz : 0 < size)
  (xs : List α) (csf : Nat → List Value) (hlen : ∀ i, i < xs.length → (csf i).length = size) (hone : ∀ i, i < xs.length → ∀ u ∈ csf i, u.oneCell' = true) (hcs : ∀ i (hi : i < xs.length) c, R c xs[i] → c = csf i) (hro : ∀ w i (hi : i < xs.length), R (csf i) xs[i] → RO w (csf i) xs[i] fun _ => False)
  (p : Option Addr) (c : Nat) (hx : a.eval x = .slice p xs.length c) (h : SliceAt w size R p xs) (hp : p = none → xs.length = 0 ∧ c = 0) (hl : xs.length * bytes ≤ reachBytes) (hm : xs.length ≤ maxLen)
  (hk : ∀ p' c' w', (∃ S, SlQ e size bytes RO w' (.slice p' xs.length c') xs S ∧ LoB w.heap.size S) → Below w.heap.size w w' → wpList P ops Q rest (a.put o.dst (.slice p' xs.length c')) w') : wpList P ops Q (o :: rest) a w := by
 rcases p with _ | ad
 ·obtain ⟨h0, rfl⟩ := hp rfl
  obtain rfl := List.length_eq_zero_iff.1 h0
  exact wpList_append_own_none hgd s x t ho 0 e i size ht hi (.slice none 0 0) 0 [] hs (World.ownsRow_nil _ _ _ _) hx (hk none 0 w ⟨fun _ => False, ⟨SlO.nil _ _ _ _ (fun _ h => h.elim), by simp⟩, fun _ h => h.elim⟩ (Below.refl _ _))
 ·refine wpList_append_own w hgd s x t ho w.heap.size e i z size bytes ht hi hz hsize hby hzs hsz (.slice none 0 0) 0 [] hs (World.ownsRow_nil _ _ _ _) ad xs.length c ((List.range xs.length).flatMap csf) hx (flat_len _ hlen) (flat_cells h hsz hlen hcs) (flatC_all fun i hi => hone i hi) (by omega) (by rw [Nat.zero_add]; unfold reachBytes at hl; omega) (Nat.le_refl _) fun v' w' hown hg _ => ?_
  have hval : ∃ p' c', v' = .slice p' xs.length c' := by
   rcases hown.2 with ⟨h1, h2⟩ | ⟨g, cap, cur, h1, _⟩
   ·exact ⟨none, 0, by rw [h1, show xs.length = 0 by omega]⟩
   ·exact ⟨some ⟨g, 0, none⟩, cap, by rw [h1]; congr 1; omega⟩
  obtain ⟨p', c', rfl⟩ := hval
  rw [Nat.zero_add, List.nil_append] at hown
  have hel : ∀ i (hi : i < xs.length), R (csf i) xs[i] := fun i hi => by
   rcases h with rfl | ⟨b, o, _, h⟩
   ·simp at hi
   ·obtain ⟨cs, _, _, hr⟩ := h i hi
    rw [← hcs i hi cs hr]
    exact hr
  exact hk p' c' w' ⟨_, ⟨SlO.flat (base := w.heap.size) (cs := csf) hown hlen hone (fun i hi => hro _ i hi (hel i hi)), hl⟩, fun k hk => (hown.lt k hk).1⟩ (Below.grown (Below.refl _ _) hg (Nat.le_refl _) (fun b e => by cases e))
theorem valCs_eq {xs : List (Bool × Int)} {i : Nat} (hi : i < xs.length) {c : List Value} (h : ValR c xs[i]) : c = valCs xs i := by
 obtain ⟨e, _⟩ := h
 rw [e]
 unfold valCs
 simp [List.getD, hi]
theorem intCs_eq {xs : List Int} {i : Nat} (hi : i < xs.length) {c : List Value} (h : IntR c xs[i]) : c = intCs xs i := by
 obtain ⟨e, _⟩ := h
 rw [e]
 unfold intCs
 simp [List.getD, hi]
theorem wpList_copyVals {w : World} {ops : Array Oper} {rest : List Oper} {o : Oper} {a : Act} {Q : Exit → Act → World → Prop} (hgd : o.guard = none) (s x : Operand)
  (ho : o.op = .call { callee := .builtin .append, args := #[s, x], argTypes := #[51, 51] }) (hs : a.eval s = .slice none 0 0) (xs : List (Bool × Int))
  (p : Option Addr) (c : Nat) (hx : a.eval x = .slice p xs.length c) (h : SliceAt w 2 ValR p xs) (hp : p = none → xs.length = 0 ∧ c = 0) (hl : xs.length * 16 ≤ reachBytes)
  (hk : ∀ p' c' w', (∃ S, SlQ 45 2 16 ValO w' (.slice p' xs.length c') xs S ∧ LoB w.heap.size S) → Below w.heap.size w w' → wpList Tryd.prog ops Q rest (a.put o.dst (.slice p' xs.length c')) w') : wpList Tryd.prog ops Q (o :: rest) a w := by
 obtain ⟨i1, k1, k2, k3, k4⟩ := info_parts infoValC
 exact wpList_copy (R := ValR) hgd s x _ ho hs 45 i1 _ 2 16 Tryd.underlying51 k1 k2 k3 k4 rfl (by decide) xs (valCs xs) (fun _ _ => rfl) (fun i _ => val_one xs i) (fun i hi c h => valCs_eq hi h) (fun _ _ _ h => h) p c hx h hp hl (by unfold reachBytes at hl; unfold maxLen; omega) hk
theorem wpList_copyInts {w : World} {ops : Array Oper} {rest : List Oper} {o : Oper} {a : Act} {Q : Exit → Act → World → Prop} (hgd : o.guard = none) (s x : Operand)
  (ho : o.op = .call { callee := .builtin .append, args := #[s, x], argTypes := #[46, 46] }) (hs : a.eval s = .slice none 0 0) (xs : List Int)
  (p : Option Addr) (c : Nat) (hx : a.eval x = .slice p xs.length c) (h : SliceAt w 1 IntR p xs) (hp : p = none → xs.length = 0 ∧ c = 0) (hl : xs.length * 8 ≤ reachBytes)
  (hk : ∀ p' c' w', (∃ S, SlQ 3 1 8 IntO w' (.slice p' xs.length c') xs S ∧ LoB w.heap.size S) → Below w.heap.size w w' → wpList Tryd.prog ops Q rest (a.put o.dst (.slice p' xs.length c')) w') : wpList Tryd.prog ops Q (o :: rest) a w := by
 obtain ⟨i1, k1, k2, k3, k4⟩ := info_parts infoIntC
 exact wpList_copy (R := IntR) hgd s x _ ho hs 3 i1 _ 1 8 Tryd.underlying46 k1 k2 k3 k4 rfl (by decide) xs (intCs xs) (fun _ _ => rfl) (fun i _ => int_one xs i) (fun i hi c h => intCs_eq hi h) (fun _ _ _ h => h) p c hx h hp hl (by unfold reachBytes at hl; unfold maxLen; omega) hk
end Go.Proofs.YtdjamkinijhjoaaDoor
namespace Go.Proofs.YtdjamkinijhjoaaDoor
open Go.RowKit

set_option maxRecDepth 100000 in
set_option maxHeartbeats 4000000 in
theorem cloneBlk_any (b : BlkL) (q1 q2 q3 : Option Addr) (e1 e2 e3 : Nat) (w : World) (hn : SlF w 2 32 (PhiR w) (.slice q1 b.phis.length e1) b.phis) (hI : SlF w 8 80 (InsR w) (.slice q2 b.list.length e2) b.list) (hT : SlF w 1 8 IntR (.slice q3 b.fin.to.length e3) b.fin.to) (i1 : I64 b.fin.kind) (i2 : I64 b.fin.onn) :
  Calls Tryd.prog 75 #[.agg #[.slice q1 b.phis.length e1, .slice q2 b.list.length e2, .int .i64 b.fin.kind, .bool b.fin.onr, .int .i64 b.fin.onn, .slice q3 b.fin.to.length e3]] w fun e w' => (∃ p1 c1 p2 c2 p3 c3, e = .returned (.agg #[.slice p1 b.phis.length c1, .slice p2 b.list.length c2, .int .i64 b.fin.kind, .bool b.fin.onr, .int .i64 b.fin.onn, .slice p3 b.fin.to.length c3]) ∧
   ∃ S, BlkO w' [.slice p1 b.phis.length c1, .slice p2 b.list.length c2, .int .i64 b.fin.kind, .bool b.fin.onr, .int .i64 b.fin.onn, .slice p3 b.fin.to.length c3] b S ∧ LoB w.heap.size S) ∧ Below w.heap.size w w' := by
 obtain ⟨iP, k1, k2, k3, k4⟩ := info_parts infoPhiC
 obtain ⟨iI, l1, l2, l3, l4⟩ := info_parts infoInsC
 have hlp : b.phis.length * 32 ≤ 140737488351232 := hn.bdC
 have hli : b.list.length * 80 ≤ 140737488351232 := hI.bdC
 have HBd := hidI (And.intro hn.bdC (And.intro hI.bdC hT.bdC))
 have hnp : SliceAt w 2 (PhiR w) q1 b.phis := by obtain ⟨_, _, e, _, _, h⟩ := hn.outC; cases e; exact h
 have hni : SliceAt w 8 (InsR w) q2 b.list := by obtain ⟨_, _, e, _, _, h⟩ := hI.outC; cases e; exact h
 obtain ⟨q3', e3', hq3, hqn, _, hqs⟩ := hT.outC
 cases hq3
 have HN := hidI hnp
 have HI := hidI hni
 have HT := hidI (And.intro hqn hqs)
 have HI1 := hidI i1
 have HI2 := hidI i2
 clear hn hI hT i1 i2 hnp hni hqn hqs
 go_enter Tryd.func75, Tryd.ntmps75
 go_wp2_with (at_builtin; refine wpList_copyInts rfl _ _ rfl rfl b.fin.to q3 e3 rfl ?hsl HT.out.1 HBd.out.2.2 ?_)
 case hsl => exact HT.out.2.mono (by repeat (first | (with_reducible first | exact bR _ _ | exact bH ‹_› | refine bD ?_ | refine bN ?_ _ | refine bS ?_ ?_ _ | refine bA ?_ ?_ _ | refine bT hb3 ?_ ?_ | refine bT hb5 ?_ ?_ | refine bT hb4 ?_ ?_) | omega | (simp; omega) | simp)) (by omega) fun _ _ g => g
 intro p3 c3 w3 S3 hS3 hL3 hb3
 have hz3 : w.heap.size + 1 + 1 + 1 ≤ w3.heap.size := by have := hb3.size; simpa using this
 have hB3 : Below w.heap.size w w3 := Below.trans (by repeat (first | (with_reducible first | exact bR _ _ | exact bH ‹_› | refine bD ?_ | refine bN ?_ _ | refine bS ?_ ?_ _ | refine bA ?_ ?_ _ | refine bT hb3 ?_ ?_ | refine bT hb5 ?_ ?_ | refine bT hb4 ?_ ?_) | omega | (simp; omega) | simp)) (hb3.mono (by first | omega | (simp; omega) | simp))
 have hP3 := heap_below hb3 (k := w.heap.size) (by first | omega | (simp; omega) | simp) (heap_step (heap_step (heap_at (w := w) (o := .cells #[.slice q1 b.phis.length e1, .slice q2 b.list.length e2, .int .i64 b.fin.kind, .bool b.fin.onr, .int .i64 b.fin.onn, .slice q3 b.fin.to.length e3] 50) rfl)))
 have hZ3 := heap_below hb3 (k := w.heap.size + 1) (by first | omega | (simp; omega) | simp) (heap_step (heap_at (w := w.alloc (.cells #[.slice q1 b.phis.length e1, .slice q2 b.list.length e2, .int .i64 b.fin.kind, .bool b.fin.onr, .int .i64 b.fin.onn, .slice q3 b.fin.to.length e3] 50)) (o := .cells #[.slice none 0 0, .slice none 0 0, .int .i64 0, .bool false, .int .i64 0, .slice none 0 0] 50) (by simp)))
 have hO3 := heap_below hb3 (k := w.heap.size + 1 + 1) (by first | omega | (simp; omega) | simp) (heap_at (w := (w.alloc (.cells #[.slice q1 b.phis.length e1, .slice q2 b.list.length e2, .int .i64 b.fin.kind, .bool b.fin.onr, .int .i64 b.fin.onn, .slice q3 b.fin.to.length e3] 50)).alloc (.cells #[.slice none 0 0, .slice none 0 0, .int .i64 0, .bool false, .int .i64 0, .slice none 0 0] 50)) (o := .cells #[.slice none 0 0, .slice none 0 0, .int .i64 b.fin.kind, .bool b.fin.onr, .int .i64 b.fin.onn, .slice q3 b.fin.to.length e3] 50) (by simp))
 have o5 : w3.cell? ⟨w.heap.size + 1 + 1, 5, none⟩ = some (.slice q3 b.fin.to.length e3) := (blk hO3).1 5
 have of := (blk hO3).2
 have oz := ltHeap hO3
 have pc : w3.cell? ⟨w.heap.size, 0, none⟩ = some (.slice q1 b.phis.length e1) := (blk hP3).1 0
 have pz := ltHeap hP3
 have HL3 : Hid (∀ k, S3 k → w.heap.size + 1 + 1 + 1 ≤ k) := hidI fun k h => by have := hL3 k h; simpa using this
 have HB3 := hidI hB3
 have HP3 := hidI hP3
 have HZ3 := hidI hZ3
 have HO3 := hidI hO3
 have HS30 := hidI hS3
 clear hS3 hL3 hb3 hB3 hP3 hZ3 hO3
 have hneO : ¬ w.heap.size = w.heap.size + 1 + 1 := by omega
 go_wp2_with fail
 obtain ⟨W0, hW0⟩ : ∃ W0, W0 = w3.setCell ⟨w.heap.size + 1 + 1, 5, none⟩ (.slice p3 b.fin.to.length c3) := ⟨_, rfl⟩
 rw [← hW0]
 have hz0 : W0.heap.size = w3.heap.size := by rw [hW0, Go.Deep.nblk_setCell]
 have hneW : ∀ k, k ≠ w.heap.size + 1 + 1 → W0.heap[k]? = w3.heap[k]? := fun k hk => by rw [hW0]; exact Go.Deep.blk_setCell_other _ ⟨w.heap.size + 1 + 1, 5, none⟩ _ k hk
 have HBW0 : Hid (Below w.heap.size w W0) := hidI (by rw [hW0]; exact HB3.out.setCell (by show w.heap.size ≤ w.heap.size + 1 + 1; omega) _)
 have HO : Hid (W0.heap[w.heap.size + 1 + 1]? = some (.cells #[.slice none 0 0, .slice none 0 0, .int .i64 b.fin.kind, .bool b.fin.onr, .int .i64 b.fin.onn, .slice p3 b.fin.to.length c3] 50 (0, 0))) := hidI (by rw [hW0, heap_set HO3.out 5 _]; rfl)
 have HPaW0 := hidI ((hneW w.heap.size (by omega)).trans HP3.out)
 have HZ := hidI ((hneW (w.heap.size + 1) (by omega)).trans HZ3.out)
 have HS3 := hidI (SlQ.loc locInt HS30.out (fun _ h => h) (fun k hk => hneW k (fun e => by have := HL3.out k hk; omega)) (by omega))
 clear hW0 hneW o5 of oz pc pz HP3 HZ3 HO3 HS30
 go_loopw [4] (fun i wr => ∃ (k : Nat) (v : Value), k ≤ b.phis.length ∧ i = .int .i64 k ∧ (∃ S, SlO 78 2 PhiO wr v (b.phis.take k) S ∧ LoB W0.heap.size S) ∧ wr.heap[w.heap.size + 1 + 1]? = some (.cells #[v, .slice none 0 0, .int .i64 b.fin.kind, .bool b.fin.onr, .int .i64 b.fin.onn, .slice p3 b.fin.to.length c3] 50 (0, 0)) ∧ Kept (fun k => k = w.heap.size + 1 + 1) W0 wr) (fun i _ => b.phis.length - (intOf i).toNat)
 case atStart => exact ⟨0, .slice none 0 0, by omega, rfl, ⟨fun _ => False, SlO.nil _ _ _ _ (fun _ h => h.elim), fun _ h => h.elim⟩, HO.out, Kept.refl _ _⟩
 case round =>
  obtain ⟨k, v, hk, rfl, ⟨S, hO, hL⟩, hA, hK⟩ := hrel
  obtain ⟨p, c, hv, _⟩ := hO.val
  rw [List.length_take_of_le hk] at hv
  subst hv
  have HO := hidI hO
  have HL := hidI hL
  have HK := hidI hK
  have HA1 := hidI hA
  have hsz := hK.size
  have HBw : Hid (Below w.heap.size w wr) := HBW0.out.trans (hK.below (by omega) (fun _ e => by omega))
  have hPa := (HK.out.block w.heap.size (by omega) (by omega)).trans HPaW0.out
  have pc : wr.cell? ⟨w.heap.size, 0, none⟩ = some (.slice q1 b.phis.length e1) := (blk hPa).1 0
  have pz := ltHeap hPa
  clear hO hL hK hA hPa
  by_cases hlt : k < b.phis.length
  ·obtain ⟨bp, op, cs, hp, _, hc, pv, rfl, hd, hs⟩ := HN.out.get hlt
   subst hp
   obtain ⟨qi, di, rfl, hq0, _, hql, hqs⟩ := hs
   have hc0 := hc 0 (by omega)
   have hc1 := hc 1 (by omega)
   have hbp := lt_of_cell hc0
   have x0 := (HBw.out.cell (p := ⟨bp, _, none⟩) hbp).trans hc0
   have x1 := (HBw.out.cell (p := ⟨bp, _, none⟩) hbp).trans hc1
   simp only [List.getElem?_cons_zero, List.getElem?_cons_succ, Nat.add_zero] at x0 x1
   have HQ := hidI (And.intro hq0 (And.intro hql hqs))
   have HD := hidI hd
   clear hc hc0 hc1 hq0 hql hqs hd
   have hoz := ltHeap HA1.out
   have g1 : (0 : Int) ≤ (k : Int) := by omega
   have g2 : (k : Int) < b.phis.length := by omega
   go_wp2_with (at_builtin; refine wpList_copyVals rfl _ _ rfl rfl b.phis[k].src qi di rfl ?hsl HQ.out.1 HQ.out.2.1 ?_)
   case hsl => exact HQ.out.2.2.mono (HBw.out.trans (by repeat (first | (with_reducible first | exact bR _ _ | exact bH ‹_› | refine bD ?_ | refine bN ?_ _ | refine bS ?_ ?_ _ | refine bA ?_ ?_ _ | refine bT hb3 ?_ ?_ | refine bT hb5 ?_ ?_ | refine bT hb4 ?_ ?_) | omega | (simp; omega) | simp))) (by omega) fun _ _ g => g
   intro p' c' w5 S2 hS2 hL2 hb5
   have hr5 : Below wr.heap.size wr w5 := Below.trans (by repeat (first | (with_reducible first | exact bR _ _ | exact bH ‹_› | refine bD ?_ | refine bN ?_ _ | refine bS ?_ ?_ _ | refine bA ?_ ?_ _ | refine bT hb3 ?_ ?_ | refine bT hb5 ?_ ?_ | refine bT hb4 ?_ ?_) | omega | (simp; omega) | simp)) (hb5.mono (by simp))
   have hu := heap_below hb5 (k := wr.heap.size) (by simp) (heap_here wr _)
   obtain ⟨hu0, hu1⟩ := blk hu
   have zu := (Array.getElem?_eq_some_iff.1 hu).1
   have hA5 := heap_below hr5 (k := w.heap.size + 1 + 1) hoz HA1.out
   have ho0 : w5.cell? ⟨w.heap.size + 1 + 1, 0, none⟩ = some (.slice p k c) := (blk hA5).1 0
   have hof := (blk hA5).2
   have zo := ltHeap hA5
   have HA5 := hidI hA5
   have hL2' : ∀ k, S2 k → wr.heap.size + 1 ≤ k := fun k h => by have := hL2 k h; simpa using this
   have HS2 := hidI hS2
   have HL2 := hidI hL2'
   have HR5 := hidI hr5
   have hr5s := hr5.size
   have hne : w.heap.size + 1 + 1 ≠ wr.heap.size := by omega
   have hN5 : ¬ S wr.heap.size := fun h => by have := HO.out.inb _ h; omega
   have hN2 : ¬ S2 wr.heap.size := fun h => by have := HL2.out _ h; omega
   have HO5 := hidI ((HO.out.below locPhi HR5.out).set_alloc locPhi (n := wr.heap.size) (j := 1) hN5 (.slice p' b.phis[k].src.length c') (.cells #[.int .i64 b.phis[k].dst, .slice p' b.phis[k].src.length c'] 78))
   have HS5 := hidI (HS2.out.set_alloc locVal (n := wr.heap.size) (j := 1) hN2 (.slice p' b.phis[k].src.length c') (.cells #[.int .i64 b.phis[k].dst, .slice p' b.phis[k].src.length c'] 78))
   have HA8 := hidI (show ((w5.setCell ⟨wr.heap.size, 1, none⟩ (.slice p' b.phis[k].src.length c')).alloc (.cells #[.int .i64 b.phis[k].dst, .slice p' b.phis[k].src.length c'] 78)).heap[w.heap.size + 1 + 1]? = some (.cells #[.slice p k c, .slice none 0 0, .int .i64 b.fin.kind, .bool b.fin.onr, .int .i64 b.fin.onn, .slice p3 b.fin.to.length c3] 50 (0, 0)) from
    heap_step ((Go.Deep.blk_setCell_other w5 ⟨wr.heap.size, 1, none⟩ _ (w.heap.size + 1 + 1) hne).trans HA5.out))
   clear hb5 hr5 hu hS2 hL2 hL2' hA5 hN5 hN2
   go_wp2_with (at_builtin; refine wpList_append_slo _ rfl _ _ 42 rfl 78 iP _ 2 32 Tryd.underlying42 k1 k2 k3 k4 rfl (by decide) locPhi rfl HO5.out ⟨w5.heap.size, 0, none⟩ 1 [.int .i64 b.phis[k].dst, .slice p' b.phis[k].src.length c'] b.phis[k] rfl rfl ?hn ?ho (T := S2) ⟨_, rfl, HD.out, HS5.out⟩ ?ha ?ht ?hm ?hb ?_)
   case hn => exact cells_new _ _ _ (by simp [World.setCell])
   case ho => intro u hu; simp only [List.mem_cons, List.not_mem_nil, or_false] at hu; rcases hu with rfl | rfl <;> rfl
   case ha => exact fun k h1 h2 => by have := HO.out.inb k h1; have := HL2.out k h2; omega
   case ht => exact HS2.out.sl.inb.set_alloc _ _ _
   case hm => unfold maxLen; simp; omega
   case hb => simp; omega
   intro v2 w8 ⟨S', hO8, hsub, hK8⟩
   obtain ⟨pv, cv, hv2, _⟩ := hO8.val
   have hv3 : v2 = .slice pv (k + 1) cv := by rw [hv2]; congr 1; simp; omega
   clear hv2
   subst hv3
   have hSn : ∀ i, i < W0.heap.size → ¬ S i := fun i hi h => by have := HL.out i h; omega
   have hA9 := (hK8.block (w.heap.size + 1 + 1) (ltHeap HA8.out) (hSn _ (by omega))).trans HA8.out
   have ho0 : w8.cell? ⟨w.heap.size + 1 + 1, 0, none⟩ = some (.slice p k c) := (blk hA9).1 0
   have hof := (blk hA9).2
   have zo := ltHeap hA9
   have hrel : (∃ S, SlO 78 2 PhiO (w8.setCell ⟨w.heap.size + 1 + 1, 0, none⟩ (.slice pv (k + 1) cv)) (.slice pv (k + 1) cv) (b.phis.take (k + 1)) S ∧ LoB W0.heap.size S) ∧ (w8.setCell ⟨w.heap.size + 1 + 1, 0, none⟩ (.slice pv (k + 1) cv)).heap[w.heap.size + 1 + 1]? = some (.cells #[.slice pv (k + 1) cv, .slice none 0 0, .int .i64 b.fin.kind, .bool b.fin.onr, .int .i64 b.fin.onn, .slice p3 b.fin.to.length c3] 50 (0, 0)) ∧ Kept (fun k => k = w.heap.size + 1 + 1) W0 (w8.setCell ⟨w.heap.size + 1 + 1, 0, none⟩ (.slice pv (k + 1) cv)) := by
    have hlo : LoB W0.heap.size S' := fun i hi => by
     rcases hsub i hi with h | h | h
     ·exact HL.out i h
     ·have := HL2.out i h; omega
     ·simp [World.setCell] at h; omega
    refine ⟨⟨S', ?_, hlo⟩, ?_, ?_⟩
    ·have hO9 : SlO 78 2 PhiO w8 (.slice pv (k + 1) cv) (b.phis.take (k + 1)) S' := by first | exact hO8 | (rw [List.take_succ_eq_append_getElem hlt]; exact hO8)
     exact hO9.loc locPhi (fun i hi => Go.Deep.blk_setCell_other _ _ _ _ (fun e => by have := hlo i hi; have e2 : i = w.heap.size + 1 + 1 := e; omega)) (by simp [World.setCell])
    ·rw [heap_set hA9 0 _]
     rfl
    ·have kA : Kept (fun k => k = w.heap.size + 1 + 1) W0 ((w5.setCell ⟨wr.heap.size, 1, none⟩ (.slice p' b.phis[k].src.length c')).alloc (.cells #[.int .i64 b.phis[k].dst, .slice p' b.phis[k].src.length c'] 78)) := HK.out.trans (Kept.of_below (S := fun _ => False) ((HR5.out.setCell (by simp) _).alloc (by simp [World.setCell]; omega) _)) (fun _ _ h => h.elim)
     exact (kA.trans hK8 (fun i hi h => absurd h (hSn i hi))).setCell rfl _
   have HRel := hidI hrel
   clear hA9 hO8 hsub hK8 hrel
   go_wp2_with fail
   exact ⟨⟨k + 1, .slice pv (k + 1) cv, by omega, by go_num, HRel.out.1, HRel.out.2.1, HRel.out.2.2⟩, by simp [intOf]; omega⟩
  ·obtain rfl : k = b.phis.length := by omega
   rw [List.take_length] at HO
   obtain ⟨W1, hW1⟩ : ∃ W1, W1 = wr := ⟨_, rfl⟩
   obtain ⟨S1, hS1⟩ : ∃ S1, S1 = S := ⟨_, rfl⟩
   obtain ⟨p5, hp5⟩ : ∃ p5, p5 = p := ⟨_, rfl⟩
   obtain ⟨c5, hc5⟩ : ∃ c5, c5 = c := ⟨_, rfl⟩
   rw [← hp5, ← hc5] at HO HA1
   clear hp5 hc5
   obtain ⟨vA, hvA⟩ : ∃ vA, vA = Value.slice p5 b.phis.length c5 := ⟨_, rfl⟩
   have HBW1 := hidI HBw.out
   have HPaW1 := hidI ((HK.out.block w.heap.size (by omega) (by omega)).trans HPaW0.out)
   have HOp := hidI HO.out
   have HLp := hidI HL.out
   have HK1 := hidI HK.out
   have HA2 := hidI HA1.out
   have pc2 : wr.cell? ⟨w.heap.size, 1, none⟩ = some (.slice q2 b.list.length e2) := (blk HPaW1.out).1 1
   rw [← hS1] at HOp HLp
   go_wp2_with fail
   rw [← hW1]
   rw [← hW1] at HBW1 HPaW1 HOp HK1 HA2 hsz
   rw [← hvA] at HA2
   clear pc2 pc pz HBw HO HL HK HA1 hW1 hS1
   go_loopw [6] (fun i wr => ∃ (k : Nat) (v : Value), k ≤ b.list.length ∧ i = .int .i64 k ∧ (∃ S, SlO 53 8 InsO wr v (b.list.take k) S ∧ LoB W1.heap.size S) ∧ wr.heap[w.heap.size + 1 + 1]? = some (.cells #[vA, v, .int .i64 b.fin.kind, .bool b.fin.onr, .int .i64 b.fin.onn, .slice p3 b.fin.to.length c3] 50 (0, 0)) ∧ Kept (fun k => k = w.heap.size + 1 + 1) W1 wr) (fun i _ => b.list.length - (intOf i).toNat)
   case atStart => exact ⟨0, .slice none 0 0, by omega, rfl, ⟨fun _ => False, SlO.nil _ _ _ _ (fun _ h => h.elim), fun _ h => h.elim⟩, HA2.out, Kept.refl _ _⟩
   case round =>
    obtain ⟨k, v, hk, rfl, ⟨S, hO, hL⟩, hA, hK⟩ := hrel
    obtain ⟨p, c, hv, _⟩ := hO.val
    rw [List.length_take_of_le hk] at hv
    subst hv
    have HO := hidI hO
    have HL := hidI hL
    have HK := hidI hK
    have HA1 := hidI hA
    have hsz := hK.size
    have HBw : Hid (Below w.heap.size w wr) := HBW1.out.trans (hK.below (by omega) (fun _ e => by omega))
    have hPa := (HK.out.block w.heap.size (by omega) (by omega)).trans HPaW1.out
    have pc : wr.cell? ⟨w.heap.size, 1, none⟩ = some (.slice q2 b.list.length e2) := (blk hPa).1 1
    have pz := ltHeap hPa
    clear hO hL hK hA hPa
    by_cases hlt : k < b.list.length
    ·obtain ⟨bp, op, cs, hp, _, hc, pv, rfl, hd1, hd2, hd3, hd4, hd5, hs⟩ := HI.out.get hlt
     subst hp
     obtain ⟨qi, di, rfl, hq0, _, hql, hqs⟩ := hs
     have hc0 := hc 0 (by omega)
     have hc1 := hc 1 (by omega)
     have hc2 := hc 2 (by omega)
     have hc3 := hc 3 (by omega)
     have hc4 := hc 4 (by omega)
     have hc5 := hc 5 (by omega)
     have hc6 := hc 6 (by omega)
     have hc7 := hc 7 (by omega)
     have hbp := lt_of_cell hc0
     have x0 := (HBw.out.cell (p := ⟨bp, _, none⟩) hbp).trans hc0
     have x1 := (HBw.out.cell (p := ⟨bp, _, none⟩) hbp).trans hc1
     have x2 := (HBw.out.cell (p := ⟨bp, _, none⟩) hbp).trans hc2
     have x3 := (HBw.out.cell (p := ⟨bp, _, none⟩) hbp).trans hc3
     have x4 := (HBw.out.cell (p := ⟨bp, _, none⟩) hbp).trans hc4
     have x5 := (HBw.out.cell (p := ⟨bp, _, none⟩) hbp).trans hc5
     have x6 := (HBw.out.cell (p := ⟨bp, _, none⟩) hbp).trans hc6
     have x7 := (HBw.out.cell (p := ⟨bp, _, none⟩) hbp).trans hc7
     simp only [List.getElem?_cons_zero, List.getElem?_cons_succ, Nat.add_zero] at x0 x1 x2 x3 x4 x5 x6 x7
     have HQ := hidI (And.intro hq0 (And.intro hql hqs))
     have HD := hidI (And.intro hd1 (And.intro hd2 (And.intro hd3 (And.intro hd4 hd5))))
     clear hc hc0 hc1 hc2 hc3 hc4 hc5 hc6 hc7 hq0 hql hqs hd1 hd2 hd3 hd4 hd5
     have hoz := ltHeap HA1.out
     have g1 : (0 : Int) ≤ (k : Int) := by omega
     have g2 : (k : Int) < b.list.length := by omega
     go_wp2_with (at_builtin; refine wpList_copyVals rfl _ _ rfl rfl b.list[k].args qi di rfl ?hsl HQ.out.1 HQ.out.2.1 ?_)
     case hsl => exact HQ.out.2.2.mono (HBw.out.trans (by repeat (first | (with_reducible first | exact bR _ _ | exact bH ‹_› | refine bD ?_ | refine bN ?_ _ | refine bS ?_ ?_ _ | refine bA ?_ ?_ _ | refine bT hb3 ?_ ?_ | refine bT hb5 ?_ ?_ | refine bT hb4 ?_ ?_) | omega | (simp; omega) | simp))) (by omega) fun _ _ g => g
     intro p' c' w5 S2 hS2 hL2 hb5
     have hr5 : Below wr.heap.size wr w5 := Below.trans (by repeat (first | (with_reducible first | exact bR _ _ | exact bH ‹_› | refine bD ?_ | refine bN ?_ _ | refine bS ?_ ?_ _ | refine bA ?_ ?_ _ | refine bT hb3 ?_ ?_ | refine bT hb5 ?_ ?_ | refine bT hb4 ?_ ?_) | omega | (simp; omega) | simp)) (hb5.mono (by simp))
     have hu := heap_below hb5 (k := wr.heap.size) (by simp) (heap_here wr _)
     obtain ⟨hu0, hu1⟩ := blk hu
     have zu := (Array.getElem?_eq_some_iff.1 hu).1
     have hA5 := heap_below hr5 (k := w.heap.size + 1 + 1) hoz HA1.out
     have ho0 : w5.cell? ⟨w.heap.size + 1 + 1, 1, none⟩ = some (.slice p k c) := (blk hA5).1 1
     have hof := (blk hA5).2
     have zo := ltHeap hA5
     have HA5 := hidI hA5
     have hL2' : ∀ k, S2 k → wr.heap.size + 1 ≤ k := fun k h => by have := hL2 k h; simpa using this
     have HS2 := hidI hS2
     have HL2 := hidI hL2'
     have HR5 := hidI hr5
     have hr5s := hr5.size
     have hne : w.heap.size + 1 + 1 ≠ wr.heap.size := by omega
     have hN5 : ¬ S wr.heap.size := fun h => by have := HO.out.inb _ h; omega
     have hN2 : ¬ S2 wr.heap.size := fun h => by have := HL2.out _ h; omega
     have HO5 := hidI ((HO.out.below locIns HR5.out).set_alloc locIns (n := wr.heap.size) (j := 7) hN5 (.slice p' b.list[k].args.length c') (.cells #[.int .i64 b.list[k].op, .int .i64 b.list[k].dst, .bool b.list[k].ar, .int .i64 b.list[k].an, .bool b.list[k].br, .int .i64 b.list[k].bn, .int .i64 b.list[k].fn, .slice p' b.list[k].args.length c'] 53))
     have HS5 := hidI (HS2.out.set_alloc locVal (n := wr.heap.size) (j := 7) hN2 (.slice p' b.list[k].args.length c') (.cells #[.int .i64 b.list[k].op, .int .i64 b.list[k].dst, .bool b.list[k].ar, .int .i64 b.list[k].an, .bool b.list[k].br, .int .i64 b.list[k].bn, .int .i64 b.list[k].fn, .slice p' b.list[k].args.length c'] 53))
     have HA8 := hidI (show ((w5.setCell ⟨wr.heap.size, 7, none⟩ (.slice p' b.list[k].args.length c')).alloc (.cells #[.int .i64 b.list[k].op, .int .i64 b.list[k].dst, .bool b.list[k].ar, .int .i64 b.list[k].an, .bool b.list[k].br, .int .i64 b.list[k].bn, .int .i64 b.list[k].fn, .slice p' b.list[k].args.length c'] 53)).heap[w.heap.size + 1 + 1]? = some (.cells #[vA, .slice p k c, .int .i64 b.fin.kind, .bool b.fin.onr, .int .i64 b.fin.onn, .slice p3 b.fin.to.length c3] 50 (0, 0)) from
      heap_step ((Go.Deep.blk_setCell_other w5 ⟨wr.heap.size, 7, none⟩ _ (w.heap.size + 1 + 1) hne).trans HA5.out))
     clear hb5 hr5 hu hS2 hL2 hL2' hA5 hN5 hN2
     go_wp2_with (at_builtin; refine wpList_append_slo _ rfl _ _ 43 rfl 53 iI _ 8 80 Tryd.underlying43 l1 l2 l3 l4 rfl (by decide) locIns rfl HO5.out ⟨w5.heap.size, 0, none⟩ 1 [.int .i64 b.list[k].op, .int .i64 b.list[k].dst, .bool b.list[k].ar, .int .i64 b.list[k].an, .bool b.list[k].br, .int .i64 b.list[k].bn, .int .i64 b.list[k].fn, .slice p' b.list[k].args.length c'] b.list[k] rfl rfl ?hn ?ho (T := S2) ⟨_, rfl, HD.out.1, HD.out.2.1, HD.out.2.2.1, HD.out.2.2.2.1, HD.out.2.2.2.2, HS5.out⟩ ?ha ?ht ?hm ?hb ?_)
     case hn => exact cells_new _ _ _ (by simp [World.setCell])
     case ho => intro u hu; simp only [List.mem_cons, List.not_mem_nil, or_false] at hu; rcases hu with rfl | rfl | rfl | rfl | rfl | rfl | rfl | rfl <;> rfl
     case ha => exact fun k h1 h2 => by have := HO.out.inb k h1; have := HL2.out k h2; omega
     case ht => exact HS2.out.sl.inb.set_alloc _ _ _
     case hm => unfold maxLen; simp; omega
     case hb => simp; omega
     intro v2 w8 ⟨S', hO8, hsub, hK8⟩
     obtain ⟨pv, cv, hv2, _⟩ := hO8.val
     have hv3 : v2 = .slice pv (k + 1) cv := by rw [hv2]; congr 1; simp; omega
     clear hv2
     subst hv3
     have hSn : ∀ i, i < W1.heap.size → ¬ S i := fun i hi h => by have := HL.out i h; omega
     have hA9 := (hK8.block (w.heap.size + 1 + 1) (ltHeap HA8.out) (hSn _ (by omega))).trans HA8.out
     have ho0 : w8.cell? ⟨w.heap.size + 1 + 1, 1, none⟩ = some (.slice p k c) := (blk hA9).1 1
     have hof := (blk hA9).2
     have zo := ltHeap hA9
     have hrel : (∃ S, SlO 53 8 InsO (w8.setCell ⟨w.heap.size + 1 + 1, 1, none⟩ (.slice pv (k + 1) cv)) (.slice pv (k + 1) cv) (b.list.take (k + 1)) S ∧ LoB W1.heap.size S) ∧ (w8.setCell ⟨w.heap.size + 1 + 1, 1, none⟩ (.slice pv (k + 1) cv)).heap[w.heap.size + 1 + 1]? = some (.cells #[vA, .slice pv (k + 1) cv, .int .i64 b.fin.kind, .bool b.fin.onr, .int .i64 b.fin.onn, .slice p3 b.fin.to.length c3] 50 (0, 0)) ∧ Kept (fun k => k = w.heap.size + 1 + 1) W1 (w8.setCell ⟨w.heap.size + 1 + 1, 1, none⟩ (.slice pv (k + 1) cv)) := by
      have hlo : LoB W1.heap.size S' := fun i hi => by
       rcases hsub i hi with h | h | h
       ·exact HL.out i h
       ·have := HL2.out i h; omega
       ·simp [World.setCell] at h; omega
      refine ⟨⟨S', ?_, hlo⟩, ?_, ?_⟩
      ·have hO9 : SlO 53 8 InsO w8 (.slice pv (k + 1) cv) (b.list.take (k + 1)) S' := by first | exact hO8 | (rw [List.take_succ_eq_append_getElem hlt]; exact hO8)
       exact hO9.loc locIns (fun i hi => Go.Deep.blk_setCell_other _ _ _ _ (fun e => by have := hlo i hi; have e2 : i = w.heap.size + 1 + 1 := e; omega)) (by simp [World.setCell])
      ·rw [heap_set hA9 1 _]
       rfl
      ·have kA : Kept (fun k => k = w.heap.size + 1 + 1) W1 ((w5.setCell ⟨wr.heap.size, 7, none⟩ (.slice p' b.list[k].args.length c')).alloc (.cells #[.int .i64 b.list[k].op, .int .i64 b.list[k].dst, .bool b.list[k].ar, .int .i64 b.list[k].an, .bool b.list[k].br, .int .i64 b.list[k].bn, .int .i64 b.list[k].fn, .slice p' b.list[k].args.length c'] 53)) := HK.out.trans (Kept.of_below (S := fun _ => False) ((HR5.out.setCell (by simp) _).alloc (by simp [World.setCell]; omega) _)) (fun _ _ h => h.elim)
       exact (kA.trans hK8 (fun i hi h => absurd h (hSn i hi))).setCell rfl _
     have HRel := hidI hrel
     clear hA9 hO8 hsub hK8 hrel
     go_wp2_with fail
     exact ⟨⟨k + 1, .slice pv (k + 1) cv, by omega, by go_num, HRel.out.1, HRel.out.2.1, HRel.out.2.2⟩, by simp [intOf]; omega⟩
    ·obtain rfl : k = b.list.length := by omega
     rw [List.take_length] at HO
     subst hvA
     have hOf := HA1.out
     have r0 : wr.cell? ⟨w.heap.size + 1 + 1, 0, none⟩ = some (.slice p5 b.phis.length c5) := (blk hOf).1 0
     have r1 : wr.cell? ⟨w.heap.size + 1 + 1, 1, none⟩ = some (.slice p b.list.length c) := (blk hOf).1 1
     have r2 : wr.cell? ⟨w.heap.size + 1 + 1, 2, none⟩ = some (.int .i64 b.fin.kind) := (blk hOf).1 2
     have r3 : wr.cell? ⟨w.heap.size + 1 + 1, 3, none⟩ = some (.bool b.fin.onr) := (blk hOf).1 3
     have r4 : wr.cell? ⟨w.heap.size + 1 + 1, 4, none⟩ = some (.int .i64 b.fin.onn) := (blk hOf).1 4
     have r5 : wr.cell? ⟨w.heap.size + 1 + 1, 5, none⟩ = some (.slice p3 b.fin.to.length c3) := (blk hOf).1 5
     have hZ := (HK.out.block (w.heap.size + 1) (by omega) (by omega)).trans ((HK1.out.block (w.heap.size + 1) (by omega) (by omega)).trans HZ.out)
     have rf := (blk hZ).2
     have rz := fun j => (blk hZ).1 j
     have rl := ltHeap hZ
     have z0 : wr.cell? ⟨w.heap.size + 1, 0, none⟩ = some (.slice none 0 0) := rz 0
     have z1 : wr.cell? ⟨w.heap.size + 1, 1, none⟩ = some (.slice none 0 0) := rz 1
     have z2 : wr.cell? ⟨w.heap.size + 1, 2, none⟩ = some (.int .i64 0) := rz 2
     have z3 : wr.cell? ⟨w.heap.size + 1, 3, none⟩ = some (.bool false) := rz 3
     have z4 : wr.cell? ⟨w.heap.size + 1, 4, none⟩ = some (.int .i64 0) := rz 4
     have z5 : wr.cell? ⟨w.heap.size + 1, 5, none⟩ = some (.slice none 0 0) := rz 5
     clear rz
     go_wp2_with fail
     obtain ⟨WF, hWF⟩ : ∃ WF, WF = (((((wr.setCell ⟨w.heap.size + 1, 0, none⟩ (.slice p5 b.phis.length c5)).setCell ⟨w.heap.size + 1, 1, none⟩ (.slice p b.list.length c)).setCell ⟨w.heap.size + 1, 2, none⟩ (.int .i64 b.fin.kind)).setCell ⟨w.heap.size + 1, 3, none⟩ (.bool b.fin.onr)).setCell ⟨w.heap.size + 1, 4, none⟩ (.int .i64 b.fin.onn)).setCell ⟨w.heap.size + 1, 5, none⟩ (.slice p3 b.fin.to.length c3) := ⟨_, rfl⟩
     rw [← hWF]
     have hF1 : WF.heap[w.heap.size + 1]? = some (.cells #[.slice p5 b.phis.length c5, .slice p b.list.length c, .int .i64 b.fin.kind, .bool b.fin.onr, .int .i64 b.fin.onn, .slice p3 b.fin.to.length c3] 50 (0, 0)) := by
      rw [hWF, heap_set (heap_set (heap_set (heap_set (heap_set (heap_set hZ 0 _) 1 _) 2 _) 3 _) 4 _) 5 _]
      rfl
     have hFo : ∀ k, k ≠ w.heap.size + 1 → WF.heap[k]? = wr.heap[k]? := fun k h1 => by
      rw [hWF]
      repeat rw [Go.Deep.blk_setCell_other _ _ _ _ (by assumption)]
     have hFs : WF.heap.size = wr.heap.size := by rw [hWF]; simp [World.setCell]
     have hFb : Below w.heap.size w WF := by
      rw [hWF]
      exact (((((HBw.out.setCell (by simp) _).setCell (by simp) _).setCell (by simp) _).setCell (by simp) _).setCell (by simp) _).setCell (by simp) _
     clear hWF
     have k0 := (blk hF1).1 0
     have k1' := (blk hF1).1 1
     have k2' := (blk hF1).1 2
     have k3' := (blk hF1).1 3
     have k4' := (blk hF1).1 4
     have k5' := (blk hF1).1 5
     have hOp := (HOp.out.kept locPhi HK.out (fun i e hi => by have := HLp.out i hi; omega)).loc (w' := WF) locPhi (fun i hi => hFo i (fun e => by have := HLp.out i hi; omega)) (by omega)
     have hOl := HO.out.loc (w' := WF) locIns (fun i hi => hFo i (fun e => by have := HL.out i hi; omega)) (by omega)
     have hO3 := ((HS3.out.sl.kept locInt HK1.out (fun i e hi => by have := HS3.out.sl.inb i hi; have := HL3.out i hi; omega)).kept locInt HK.out (fun i e hi => by have := HL3.out i hi; omega)).loc (w' := WF) locInt (fun i hi => hFo i (fun e => by have := HL3.out i hi; omega)) (by omega)
     refine bodyPost_ret (v := .agg #[.slice p5 b.phis.length c5, .slice p b.list.length c, .int .i64 b.fin.kind, .bool b.fin.onr, .int .i64 b.fin.onn, .slice p3 b.fin.to.length c3]) ?_ rfl ⟨⟨p5, c5, p, c, p3, c3, rfl, fun k => S1 k ∨ S k ∨ S3 k, ⟨_, _, _, S1, S, S3, rfl, HI1.out, HI2.out, ⟨hOp, HBd.out.1⟩, ⟨hOl, HBd.out.2.1⟩, ⟨hO3, HBd.out.2.2⟩, fun k x y => ?_, fun k x y => ?_, fun k x y => ?_, fun _ h => .inl h, fun _ h => .inr (.inl h), fun _ h => .inr (.inr h)⟩, fun i hi => ?_⟩, hFb⟩
     ·simp [results, Tryd.results75, go_sem, k0, k1', k2', k3', k4', k5']
     ·have := HOp.out.inb k x; have := HL.out k y; omega
     ·have := HLp.out k x; have := HS3.out.sl.inb k y; omega
     ·have := HL.out k x; have := HS3.out.sl.inb k y; omega
     ·rcases hi with h | h | h
      ·have := HLp.out i h; omega
      ·have := HL.out i h; omega
      ·have := HL3.out i h; omega
end Go.Proofs.YtdjamkinijhjoaaDoor
