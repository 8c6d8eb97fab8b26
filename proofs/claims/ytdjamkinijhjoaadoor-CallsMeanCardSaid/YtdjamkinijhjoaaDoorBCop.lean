/-
  The contracts of slices.Clone: values, numbers.
The contract of calls.CopyBlock.
-/
import Derived.Test.YtdjamkinijhjoaaDoorBOwn
import Derived.WalkKit
import Derived.WalkSpells
import Derived.WalkLawsBesides
namespace Go.Proofs.YtdjamkinijhjoaaDoor
open Go.RowKit

/-- from block B on -/
def LoB (B : Nat) (S : Blks) : Prop := ∀ k, S k → B ≤ k
def valCs (xs : List (Bool × Int)) (i : Nat) : List Value := [.bool (xs.getD i (false, 0)).1, .int .i64 (xs.getD i (false, 0)).2]
def intCs (xs : List Int) (i : Nat) : List Value := [.int .i64 (xs.getD i 0)]
theorem infoValC : (Tryd.prog.info? 45).map (fun i => (i.zero, i.size, i.bytes)) = some (some (.agg #[.bool false, .int .i64 0]), 2, 16) := by kernel_rfl
theorem infoIntC : (Tryd.prog.info? 3).map (fun i => (i.zero, i.size, i.bytes)) = some (some (.int .i64 0), 1, 8) := by kernel_rfl
theorem own_litC {w : World} {e : TypeId} {B g size : Nat} (h : w.heap[g]? = some (.cells #[] e (0, 0))) (hB : B ≤ g) : w.ownsRow B e size (.slice (some ⟨g, 0, none⟩) 0 0) 0 [] :=
  ⟨by simp, .inr ⟨g, 0, #[], rfl, hB, h, by simp, by simp, by simp, by simp⟩⟩
theorem val_one (xs : List (Bool × Int)) (i : Nat) : ∀ u ∈ valCs xs i, u.oneCell' = true := by
  intro u hu
  simp only [valCs, List.mem_cons, List.not_mem_nil, or_false] at hu
  rcases hu with rfl | rfl <;> rfl
theorem int_one (xs : List Int) (i : Nat) : ∀ u ∈ intCs xs i, u.oneCell' = true := by
  intro u hu
  simp only [intCs, List.mem_cons, List.not_mem_nil, or_false] at hu
  rw [hu]
  rfl
theorem flatC_all {cs : Nat → List Value} {n : Nat} {P : Value → Prop} (h : ∀ i, i < n → ∀ u ∈ cs i, P u) : ∀ u ∈ (List.range n).flatMap cs, P u := by
  intro u hu
  obtain ⟨i, hi, h2⟩ := List.mem_flatMap.1 hu
  exact h i (List.mem_range.1 hi) u h2
theorem addr_addO (b o j : Nat) : (⟨b, o, none⟩ : Addr).add j = ⟨b, o + j, none⟩ := by
  by_cases hz : j = 0 <;> simp [Addr.add, hz]
/-- the cells of a slice that is there, one behind the other -/
theorem flat_cells {α : Type} {w : World} {size : Nat} {R : List Value → α → Prop} {a : Addr} {xs : List α} {cs : Nat → List Value} (h : SliceAt w size R (some a) xs) (hsz : 0 < size) (hl : ∀ i, i < xs.length → (cs i).length = size) (hc : ∀ i (hi : i < xs.length) c, R c xs[i] → c = cs i) :
    ∀ j u, ((List.range xs.length).flatMap cs)[j]? = some u → w.cell? (a.add j) = some u := by
  intro j u hu
  rcases h with rfl | ⟨b, o, ha, h⟩
  · simp at hu
  · cases ha
    have hj : j < xs.length * size := by
      rw [← flat_len _ hl]
      exact (List.getElem?_eq_some_iff.1 hu).1
    have hi : j / size < xs.length := Nat.div_lt_of_lt_mul (by rw [Nat.mul_comm]; exact hj)
    have hm := Nat.mod_lt j hsz
    have e : j = j / size * size + j % size := by rw [Nat.mul_comm]; exact (Nat.div_add_mod j size).symm
    obtain ⟨c, _, hcell, hr⟩ := h _ hi
    have h1 := hcell _ hm
    rw [hc _ hi c hr] at h1
    rw [e, flat_get _ hl _ _ hi hm] at hu
    have ea : (⟨b, o, none⟩ : Addr).add j = ⟨b, o + j / size * size + j % size, none⟩ := by
      have e3 : o + j / size * size + j % size = o + j := by omega
      rw [e3]
      exact addr_addO b o j
    rw [ea, h1, hu]

set_option maxRecDepth 100000 in
set_option maxHeartbeats 1000000 in
theorem clone_vals (xs : List (Bool × Int)) (p : Option Addr) (c : Nat) (w : World) (h : SliceAt w 2 ValR p xs) (hp : p = none → xs.length = 0 ∧ c = 0) (hl : xs.length * 16 ≤ reachBytes) :
    Calls Tryd.prog 136 #[.slice p xs.length c] w fun e w' => ∃ p' c', e = .returned (.slice p' xs.length c') ∧ (∃ S, SlQ 45 2 16 ValO w' (.slice p' xs.length c') xs S ∧ LoB w.heap.size S) ∧ Below w.heap.size w w' := by
  have hlr : xs.length * 16 ≤ 140737488351232 := hl
  rcases p with _ | a
  · obtain ⟨h0, rfl⟩ := hp rfl
    obtain rfl := List.length_eq_zero_iff.1 h0
    have he : ∀ w : World, (binOp .eql 51 (.slice none 0 0) (.slice none 0 0)).run Tryd.prog w = .ok (.bool true) w := fun _ => rfl
    go_enter Tryd.func136, Tryd.ntmps136
    go_wp2_with fail
    go_ret
    exact ⟨none, 0, rfl, ⟨fun _ => False, ⟨SlO.nil _ _ _ _ (fun _ h => h.elim), by simp⟩, fun _ h => h.elim⟩, Below.refl _ _⟩
  · obtain ⟨i1, k1, k2, k3, k4⟩ := info_parts infoValC
    have HT := hidI h
    have HV : Hid (∀ i (hi : i < xs.length) cs, ValR cs xs[i] → cs = valCs xs i) := hidI fun i hi cs hr => by
      obtain ⟨e, _⟩ := hr
      rw [e]
      unfold valCs
      simp [List.getD, hi]
    have HL : Hid (∀ i, i < xs.length → (valCs xs i).length = 2) := hidI fun _ _ => rfl
    have HX : Hid (∀ i (hi : i < xs.length), I64 xs[i].2) := hidI fun i hi => by
      rcases h with rfl | ⟨b, o, _, h⟩
      · simp at hi
      · obtain ⟨_, _, _, hr⟩ := h i hi
        exact hr.2
    have he : ∀ w : World, (binOp .eql 51 (.slice (some a) xs.length c) (.slice none 0 0)).run Tryd.prog w = .ok (.bool false) w := fun _ => rfl
    clear h
    go_enter Tryd.func136, Tryd.ntmps136
    go_wp2_with (at_builtin; refine wpList_append_own _ rfl (.tmp 5) (.tmp 6) 51 rfl w.heap.size 45 i1 _ 2 16 Tryd.underlying51 k1 k2 k3 k4 rfl (by decide) _ 0 [] rfl ?c0 a xs.length c ((List.range xs.length).flatMap (valCs xs)) rfl ?c1 ?c2 ?c3 ?c4 ?c5 ?c6 ?_)
    case c0 => exact own_litC (heap_here _ _) (Nat.le_refl _)
    case c1 => exact flat_len _ HL.out
    case c2 => exact flat_cells (HT.out.mono ((Below.refl _ w).alloc (Nat.le_refl _) _) (by omega) fun _ _ g => g) (by omega) HL.out HV.out
    case c3 => exact flatC_all fun i _ => val_one xs i
    case c4 => unfold maxLen; omega
    case c5 => omega
    case c6 => simp
    intro v' w' hown hg _
    have hval : ∃ p' c', v' = .slice p' xs.length c' := by
      rcases hown.2 with ⟨h1, h2⟩ | ⟨g, cap, cur, h1, _⟩
      · exact ⟨none, 0, by rw [h1, show xs.length = 0 by omega]⟩
      · exact ⟨some ⟨g, 0, none⟩, cap, by rw [h1]⟩
    obtain ⟨p', c', rfl⟩ := hval
    go_wp2
    refine bodyPost_ret (v := .slice p' xs.length c') ?_ rfl ⟨p', c', rfl, ⟨_, ⟨SlO.flat (base := w.heap.size) (cs := valCs xs) (by simpa using hown) HL.out (fun i _ => val_one xs i) (fun i hi => ?_), hl⟩, fun k hk => (hown.lt k hk).1⟩, ?_⟩
    · simp [results, Tryd.results136, go_sem]
    · have hx := HX.out i hi
      unfold ValO ValR valCs
      simp [List.getD, hi, hx]
    · exact Below.grown (by repeat (first | with_reducible exact Below.refl _ _ | with_reducible exact HB3.out | with_reducible refine Below.drew ?_ | with_reducible refine below_drewN ?_ _ | with_reducible refine Below.setCell ?_ ?_ _ | with_reducible refine Below.alloc ?_ ?_ _ | with_reducible exact HB2.out | with_reducible exact HB1.out | with_reducible refine Below.trans ?_ (Below.mono hb3 ?_) | with_reducible refine Below.trans ?_ (Below.mono hb5 ?_) | with_reducible refine Below.trans ?_ (Below.mono hb4 ?_) | omega | (simp; omega) | simp)) hg (by simp) (fun b e => by cases e; exact Nat.le_refl _)

set_option maxRecDepth 100000 in
set_option maxHeartbeats 1000000 in
theorem clone_nums (xs : List (Int)) (p : Option Addr) (c : Nat) (w : World) (h : SliceAt w 1 IntR p xs) (hp : p = none → xs.length = 0 ∧ c = 0) (hl : xs.length * 8 ≤ reachBytes) :
    Calls Tryd.prog 65 #[.slice p xs.length c] w fun e w' => ∃ p' c', e = .returned (.slice p' xs.length c') ∧ (∃ S, SlQ 3 1 8 IntO w' (.slice p' xs.length c') xs S ∧ LoB w.heap.size S) ∧ Below w.heap.size w w' := by
  have hlr : xs.length * 8 ≤ 140737488351232 := hl
  rcases p with _ | a
  · obtain ⟨h0, rfl⟩ := hp rfl
    obtain rfl := List.length_eq_zero_iff.1 h0
    have he : ∀ w : World, (binOp .eql 46 (.slice none 0 0) (.slice none 0 0)).run Tryd.prog w = .ok (.bool true) w := fun _ => rfl
    go_enter Tryd.func65, Tryd.ntmps65
    go_wp2_with fail
    go_ret
    exact ⟨none, 0, rfl, ⟨fun _ => False, ⟨SlO.nil _ _ _ _ (fun _ h => h.elim), by simp⟩, fun _ h => h.elim⟩, Below.refl _ _⟩
  · obtain ⟨i1, k1, k2, k3, k4⟩ := info_parts infoIntC
    have HT := hidI h
    have HV : Hid (∀ i (hi : i < xs.length) cs, IntR cs xs[i] → cs = intCs xs i) := hidI fun i hi cs hr => by
      obtain ⟨e, _⟩ := hr
      rw [e]
      unfold intCs
      simp [List.getD, hi]
    have HL : Hid (∀ i, i < xs.length → (intCs xs i).length = 1) := hidI fun _ _ => rfl
    have HX : Hid (∀ i (hi : i < xs.length), I64 xs[i]) := hidI fun i hi => by
      rcases h with rfl | ⟨b, o, _, h⟩
      · simp at hi
      · obtain ⟨_, _, _, hr⟩ := h i hi
        exact hr.2
    have he : ∀ w : World, (binOp .eql 46 (.slice (some a) xs.length c) (.slice none 0 0)).run Tryd.prog w = .ok (.bool false) w := fun _ => rfl
    clear h
    go_enter Tryd.func65, Tryd.ntmps65
    go_wp2_with (at_builtin; refine wpList_append_own _ rfl (.tmp 5) (.tmp 6) 46 rfl w.heap.size 3 i1 _ 1 8 Tryd.underlying46 k1 k2 k3 k4 rfl (by decide) _ 0 [] rfl ?c0 a xs.length c ((List.range xs.length).flatMap (intCs xs)) rfl ?c1 ?c2 ?c3 ?c4 ?c5 ?c6 ?_)
    case c0 => exact own_litC (heap_here _ _) (Nat.le_refl _)
    case c1 => exact flat_len _ HL.out
    case c2 => exact flat_cells (HT.out.mono ((Below.refl _ w).alloc (Nat.le_refl _) _) (by omega) fun _ _ g => g) (by omega) HL.out HV.out
    case c3 => exact flatC_all fun i _ => int_one xs i
    case c4 => unfold maxLen; omega
    case c5 => omega
    case c6 => simp
    intro v' w' hown hg _
    have hval : ∃ p' c', v' = .slice p' xs.length c' := by
      rcases hown.2 with ⟨h1, h2⟩ | ⟨g, cap, cur, h1, _⟩
      · exact ⟨none, 0, by rw [h1, show xs.length = 0 by omega]⟩
      · exact ⟨some ⟨g, 0, none⟩, cap, by rw [h1]⟩
    obtain ⟨p', c', rfl⟩ := hval
    go_wp2
    refine bodyPost_ret (v := .slice p' xs.length c') ?_ rfl ⟨p', c', rfl, ⟨_, ⟨SlO.flat (base := w.heap.size) (cs := intCs xs) (by simpa using hown) HL.out (fun i _ => int_one xs i) (fun i hi => ?_), hl⟩, fun k hk => (hown.lt k hk).1⟩, ?_⟩
    · simp [results, Tryd.results65, go_sem]
    · have hx := HX.out i hi
      unfold IntO IntR intCs
      simp [List.getD, hi, hx]
    · exact Below.grown (by repeat (first | with_reducible exact Below.refl _ _ | with_reducible exact HB3.out | with_reducible refine Below.drew ?_ | with_reducible refine below_drewN ?_ _ | with_reducible refine Below.setCell ?_ ?_ _ | with_reducible refine Below.alloc ?_ ?_ _ | with_reducible exact HB2.out | with_reducible exact HB1.out | with_reducible refine Below.trans ?_ (Below.mono hb3 ?_) | with_reducible refine Below.trans ?_ (Below.mono hb5 ?_) | with_reducible refine Below.trans ?_ (Below.mono hb4 ?_) | omega | (simp; omega) | simp)) hg (by simp) (fun b e => by cases e; exact Nat.le_refl _)
end Go.Proofs.YtdjamkinijhjoaaDoor
namespace Go.Proofs.YtdjamkinijhjoaaDoor
open Go.RowKit

theorem infoPhiC : (Tryd.prog.info? 78).map (fun i => (i.zero, i.size, i.bytes)) = some (some (.agg #[.int .i64 0, .slice none 0 0]), 2, 32) := by kernel_rfl
theorem infoInsC : (Tryd.prog.info? 53).map (fun i => (i.zero, i.size, i.bytes)) = some (some (.agg #[.int .i64 0, .int .i64 0, .bool false, .int .i64 0, .bool false, .int .i64 0, .int .i64 0, .slice none 0 0]), 8, 80) := by kernel_rfl
/-- an element of a slice that is there -/
theorem SliceAt.get {α : Type} {w : World} {size : Nat} {R : List Value → α → Prop} {p : Option Addr} {xs : List α} (h : SliceAt w size R p xs) {i : Nat} (hi : i < xs.length) : ∃ b o cs, p = some ⟨b, o, none⟩ ∧ cs.length = size ∧ (∀ j, j < size → w.cell? ⟨b, o + i * size + j, none⟩ = cs[j]?) ∧ R cs xs[i] := by
  rcases h with rfl | ⟨b, o, hp, h⟩
  · simp at hi
  · obtain ⟨cs, hl, hc, hr⟩ := h i hi
    exact ⟨b, o, cs, hp, hl, hc, hr⟩
/-- a store elsewhere, and a block more -/
theorem loc_set_alloc {α : Type} {R : ElemO α} (hR : LocO R) {w : World} {cs : List Value} {x : α} {S : Blks} (h : R w cs x S) {n j : Nat} (hS : ∀ k, S k → k < w.heap.size ∧ k ≠ n) (u : Value) (o : Obj) : R ((w.setCell ⟨n, j, none⟩ u).alloc o) cs x S :=
  hR _ _ _ _ _ h (fun k hk => (Below.heap_alloc _ o k (by rw [Go.Deep.nblk_setCell]; exact (hS k hk).1)).trans (Go.Deep.blk_setCell_other w ⟨n, j, none⟩ u k (hS k hk).2)) (by simp [World.setCell])
theorem SlO.set_alloc {α : Type} {e : TypeId} {size : Nat} {R : ElemO α} (hR : LocO R) {w : World} {v : Value} {xs : List α} {S : Blks} (h : SlO e size R w v xs S) {n j : Nat} (hS : ¬ S n) (u : Value) (o : Obj) : SlO e size R ((w.setCell ⟨n, j, none⟩ u).alloc o) v xs S :=
  h.loc hR (fun k hk => (Below.heap_alloc _ o k (by rw [Go.Deep.nblk_setCell]; exact h.inb k hk)).trans (Go.Deep.blk_setCell_other w ⟨n, j, none⟩ u k (fun e => hS (by rw [← show k = n from e]; exact hk)))) (by simp [World.setCell])
theorem SlQ.set_alloc {α : Type} {e : TypeId} {size bytes : Nat} {R : ElemO α} (hR : LocO R) {w : World} {v : Value} {xs : List α} {S : Blks} (h : SlQ e size bytes R w v xs S) {n j : Nat} (hS : ¬ S n) (u : Value) (o : Obj) : SlQ e size bytes R ((w.setCell ⟨n, j, none⟩ u).alloc o) v xs S := ⟨h.sl.set_alloc hR hS u o, h.bd⟩
theorem InB.set_alloc {w : World} {S : Blks} (h : InB w S) (a : Addr) (u : Value) (o : Obj) : InB ((w.setCell a u).alloc o) S := h.mono (by simp [World.setCell])

set_option maxRecDepth 100000 in
set_option maxHeartbeats 2000000 in
theorem copyBlk_any (b : BlkL) (q1 q2 q3 : Option Addr) (e1 e2 e3 : Nat) (w : World) (hn : SlF w 2 32 (PhiR w) (.slice q1 b.phis.length e1) b.phis) (hI : SlF w 8 80 (InsR w) (.slice q2 b.list.length e2) b.list) (hT : SlF w 1 8 IntR (.slice q3 b.fin.to.length e3) b.fin.to) (i1 : I64 b.fin.kind) (i2 : I64 b.fin.onn) :
    Calls Tryd.prog 111 #[.agg #[.slice q1 b.phis.length e1, .slice q2 b.list.length e2, .int .i64 b.fin.kind, .bool b.fin.onr, .int .i64 b.fin.onn, .slice q3 b.fin.to.length e3]] w fun e w' => (∃ p1 c1 p2 c2 p3 c3, e = .returned (.agg #[.slice p1 b.phis.length c1, .slice p2 b.list.length c2, .int .i64 b.fin.kind, .bool b.fin.onr, .int .i64 b.fin.onn, .slice p3 b.fin.to.length c3]) ∧
      ∃ S, BlkO w' [.slice p1 b.phis.length c1, .slice p2 b.list.length c2, .int .i64 b.fin.kind, .bool b.fin.onr, .int .i64 b.fin.onn, .slice p3 b.fin.to.length c3] b S ∧ LoB w.heap.size S) ∧ Below w.heap.size w w' := by
  obtain ⟨iP, k1, k2, k3, k4⟩ := info_parts infoPhiC
  obtain ⟨iI, l1, l2, l3, l4⟩ := info_parts infoInsC
  have hlp : b.phis.length * 32 ≤ 140737488351232 := hn.out.elim fun _ h => h.elim fun _ h => h.2.1
  have hli : b.list.length * 80 ≤ 140737488351232 := hI.out.elim fun _ h => h.elim fun _ h => h.2.1
  have hnp : SliceAt w 2 (PhiR w) q1 b.phis := by
    obtain ⟨p, c, e, _, _, h⟩ := hn.outC
    cases e
    exact h
  have hni : SliceAt w 8 (InsR w) q2 b.list := by
    obtain ⟨p, c, e, _, _, h⟩ := hI.outC
    cases e
    exact h
  have HN := hidI hnp
  have HI := hidI hni
  have HT := hidI hT
  have HI1 := hidI i1
  have HI2 := hidI i2
  have HBd := hidI (And.intro hn.bdC (And.intro hI.bdC hT.bdC))
  clear hn hI hT i1 i2 hnp hni
  go_enter Tryd.func111, Tryd.ntmps111
  go_wp2_with fail
  obtain ⟨W0, hW0⟩ : ∃ W0, W0 = (w.alloc (.cells #[.slice q1 b.phis.length e1, .slice q2 b.list.length e2, .int .i64 b.fin.kind, .bool b.fin.onr, .int .i64 b.fin.onn, .slice q3 b.fin.to.length e3] 50)).alloc (.cells #[.slice none 0 0, .slice none 0 0, .int .i64 0, .bool false, .int .i64 0, .slice none 0 0] 50) := ⟨_, rfl⟩
  rw [← hW0]
  have hz0 : W0.heap.size = w.heap.size + 1 + 1 := by rw [hW0]; simp
  have HB0 : Hid (Below w.heap.size w W0) := hidI (by rw [hW0]; repeat (first | with_reducible exact Below.refl _ _ | with_reducible exact HB3.out | with_reducible refine Below.drew ?_ | with_reducible refine below_drewN ?_ _ | with_reducible refine Below.setCell ?_ ?_ _ | with_reducible refine Below.alloc ?_ ?_ _ | with_reducible exact HB2.out | with_reducible exact HB1.out | with_reducible refine Below.trans ?_ (Below.mono hb3 ?_) | with_reducible refine Below.trans ?_ (Below.mono hb5 ?_) | with_reducible refine Below.trans ?_ (Below.mono hb4 ?_) | omega | (simp; omega) | simp))
  have HA : Hid (W0.heap[w.heap.size]? = some (.cells #[.slice q1 b.phis.length e1, .slice q2 b.list.length e2, .int .i64 b.fin.kind, .bool b.fin.onr, .int .i64 b.fin.onn, .slice q3 b.fin.to.length e3] 50 (0, 0))) := hidI (by rw [hW0]; exact heap_step (heap_at rfl))
  have HZ : Hid (W0.heap[w.heap.size + 1]? = some (.cells #[.slice none 0 0, .slice none 0 0, .int .i64 0, .bool false, .int .i64 0, .slice none 0 0] 50 (0, 0))) := hidI (by rw [hW0]; exact heap_at (by simp))
  clear hW0
  go_loopw [3, 12] (fun v i wr => ∃ k : Nat, k ≤ b.phis.length ∧ i = .int .i64 k ∧ (∃ S, SlO 78 2 PhiO wr v (b.phis.take k) S ∧ LoB W0.heap.size S) ∧ Below W0.heap.size W0 wr) (fun _ i _ => b.phis.length - (intOf i).toNat)
  case atStart => exact ⟨0, by omega, rfl, ⟨fun _ => False, SlO.nil _ _ _ _ (fun _ h => h.elim), fun _ h => h.elim⟩, Below.refl _ _⟩
  case round =>
    obtain ⟨k, hk, rfl, ⟨S, hO, hL⟩, hb⟩ := hrel
    obtain ⟨vpA, vcA, hv, _⟩ := hO.val
    rw [List.length_take_of_le hk] at hv
    subst hv
    have HO := hidI hO
    have HL := hidI hL
    have HB := hidI hb
    have hsz := hb.size
    have HBw : Hid (Below w.heap.size w wr) := HB0.out.trans (hb.mono (by omega))
    clear hO hL hb
    by_cases hlt : k < b.phis.length
    · obtain ⟨bp, op, cs, hp, _, hc, pv, rfl, hd, hs⟩ := HN.out.get hlt
      subst hp
      obtain ⟨q, c, rfl, hq0, _, hql, hqs⟩ := hs
      have hc0 := hc 0 (by omega)
      have hc1 := hc 1 (by omega)
      have hbp := lt_of_cell hc0
      have c0 := (HBw.out.cell (p := ⟨bp, _, none⟩) hbp).trans hc0
      have c1 := (HBw.out.cell (p := ⟨bp, _, none⟩) hbp).trans hc1
      simp only [List.getElem?_cons_zero, List.getElem?_cons_succ, Nat.add_zero] at c0 c1
      have HQ0 := hidI hq0
      have HQl := hidI hql
      have HQs := hidI hqs
      have HD := hidI hd
      clear hc hc0 hc1 hq0 hql hqs hd
      go_wp2_with fail
      refine (clone_vals b.phis[k].src q c _ (HQs.out.mono (HBw.out.trans (by repeat (first | with_reducible exact Below.refl _ _ | with_reducible exact HB3.out | with_reducible refine Below.drew ?_ | with_reducible refine below_drewN ?_ _ | with_reducible refine Below.setCell ?_ ?_ _ | with_reducible refine Below.alloc ?_ ?_ _ | with_reducible exact HB2.out | with_reducible exact HB1.out | with_reducible refine Below.trans ?_ (Below.mono hb3 ?_) | with_reducible refine Below.trans ?_ (Below.mono hb5 ?_) | with_reducible refine Below.trans ?_ (Below.mono hb4 ?_) | omega | (simp; omega) | simp))) (by omega) fun _ _ g => g) HQ0.out HQl.out).mono ?_
      rintro e w5 ⟨p', c', rfl, ⟨S2, hS2, hL2⟩, hb5⟩
      have hr5 : Below wr.heap.size wr w5 := Below.trans (by repeat (first | with_reducible exact Below.refl _ _ | with_reducible exact HB3.out | with_reducible refine Below.drew ?_ | with_reducible refine below_drewN ?_ _ | with_reducible refine Below.setCell ?_ ?_ _ | with_reducible refine Below.alloc ?_ ?_ _ | with_reducible exact HB2.out | with_reducible exact HB1.out | with_reducible refine Below.trans ?_ (Below.mono hb3 ?_) | with_reducible refine Below.trans ?_ (Below.mono hb5 ?_) | with_reducible refine Below.trans ?_ (Below.mono hb4 ?_) | omega | (simp; omega) | simp)) (hb5.mono (by simp))
      have hu := heap_below hb5 (k := wr.heap.size) (by simp) (heap_here wr _)
      obtain ⟨hu0, hu1⟩ := blk hu
      have zu := (Array.getElem?_eq_some_iff.1 hu).1
      have hN5 : ¬ S wr.heap.size := fun h => by have := HO.out.inb _ h; omega
      have hL2' : ∀ k, S2 k → wr.heap.size + 1 ≤ k := fun k h => by have := hL2 k h; simpa using this
      have hN2 : ¬ S2 wr.heap.size := fun h => by have := hL2' _ h; omega
      have HO5 := hidI (HO.out.below locPhi hr5)
      have HS2 := hidI hS2
      have HL2 := hidI hL2'
      have HR5 := hidI hr5
      have HNN := hidI (And.intro hN5 hN2)
      have hr5s := hr5.size
      clear hb5 hr5 hu hS2 hL2 hL2' hN5 hN2
      go_wp2_with (at_builtin; refine wpList_append_slo _ rfl _ _ 42 rfl 78 iP _ 2 32 Tryd.underlying42 k1 k2 k3 k4 rfl (by decide) locPhi rfl (HO5.out.set_alloc locPhi HNN.out.1 _ _) ⟨w5.heap.size, 0, none⟩ 1 [.int .i64 b.phis[k].dst, .slice p' b.phis[k].src.length c'] b.phis[k] rfl rfl ?hn ?ho (T := S2) ⟨_, rfl, HD.out, HS2.out.set_alloc locVal HNN.out.2 _ _⟩ ?ha ?ht ?hm ?hb ?_)
      case hn => exact cells_new _ _ _ (by simp [World.setCell])
      case ho => intro u hu; simp only [List.mem_cons, List.not_mem_nil, or_false] at hu; rcases hu with rfl | rfl <;> rfl
      case ha => exact fun k h1 h2 => by have := HO.out.inb k h1; have := HL2.out k h2; omega
      case ht => exact HS2.out.sl.inb.set_alloc _ _ _
      case hm => unfold maxLen; simp; omega
      case hb => simp; omega
      intro v2 w8 ⟨S', hO8, hsub, hK⟩
      have hrel : (∃ S, SlO 78 2 PhiO w8 v2 (b.phis.take (k + 1)) S ∧ LoB W0.heap.size S) ∧ Below W0.heap.size W0 w8 := by
        refine ⟨⟨S', by first | exact hO8 | (rw [List.take_succ_eq_append_getElem hlt]; exact hO8), fun k hk => ?_⟩, ?_⟩
        · rcases hsub k hk with h | h | h
          · exact HL.out k h
          · have := HL2.out k h; omega
          · simp [World.setCell] at h; omega
        · refine (((HB.out.trans (HR5.out.mono hsz)).setCell hsz _).alloc (by simp [World.setCell]; omega) _).trans (hK.below (by simp [World.setCell]; omega) HL.out)
      have HRel := hidI hrel
      clear hO8 hsub hK hrel
      go_wp2_with fail
      exact ⟨⟨k + 1, by omega, by go_num, HRel.out.1, HRel.out.2⟩, by simp [intOf]; omega⟩
    · obtain rfl : k = b.phis.length := by omega
      rw [List.take_length] at HO
      have HOp := hidI HO.out
      have HLp := hidI HL.out
      clear HO HL
      obtain ⟨W1, hW1⟩ : ∃ W1, W1 = wr := ⟨_, rfl⟩
      rw [← hW1]
      rw [← hW1] at HOp HB HBw hsz
      have HB1 := hidI HBw.out
      have HB01 := hidI HB.out
      obtain ⟨Sp, hSp⟩ : ∃ Sp, Sp = S := ⟨_, rfl⟩
      rw [← hSp] at HOp HLp
      have hu1 := heap_below HB01.out (k := w.heap.size) (by omega) HA.out
      have k1c : W1.cell? ⟨w.heap.size, 1, none⟩ = some (.slice q2 b.list.length e2) := (blk hu1).1 1
      have zz1 : w.heap.size < W1.heap.size := by omega
      clear HB HBw hW1 hSp hu1
      go_wp2_with fail
      go_loopw [6, 28] (fun v i wr => ∃ k : Nat, k ≤ b.list.length ∧ i = .int .i64 k ∧ (∃ S, SlO 53 8 InsO wr v (b.list.take k) S ∧ LoB W1.heap.size S) ∧ Below W1.heap.size W1 wr) (fun _ i _ => b.list.length - (intOf i).toNat)
      case atStart => exact ⟨0, by omega, rfl, ⟨fun _ => False, SlO.nil _ _ _ _ (fun _ h => h.elim), fun _ h => h.elim⟩, Below.refl _ _⟩
      case round =>
        obtain ⟨k, hk, rfl, ⟨S, hO, hL⟩, hb⟩ := hrel
        obtain ⟨vpB, vcB, hv, _⟩ := hO.val
        rw [List.length_take_of_le hk] at hv
        subst hv
        have HO := hidI hO
        have HL := hidI hL
        have HB := hidI hb
        have hsz := hb.size
        have HBw : Hid (Below w.heap.size w wr) := HB1.out.trans (hb.mono (by omega))
        clear hO hL hb
        by_cases hlt : k < b.list.length
        · obtain ⟨bp, op, cs, hp, _, hc, pv, rfl, hd1, hd2, hd3, hd4, hd5, hs⟩ := HI.out.get hlt
          subst hp
          obtain ⟨q, c, rfl, hq0, _, hql, hqs⟩ := hs
          have hc0 := hc 0 (by omega)
          have hc1 := hc 1 (by omega)
          have hc2 := hc 2 (by omega)
          have hc3 := hc 3 (by omega)
          have hc4 := hc 4 (by omega)
          have hc5 := hc 5 (by omega)
          have hc6 := hc 6 (by omega)
          have hc7 := hc 7 (by omega)
          have hbp := lt_of_cell hc0
          have c0 := (HBw.out.cell (p := ⟨bp, _, none⟩) hbp).trans hc0
          have c1 := (HBw.out.cell (p := ⟨bp, _, none⟩) hbp).trans hc1
          have c2 := (HBw.out.cell (p := ⟨bp, _, none⟩) hbp).trans hc2
          have c3 := (HBw.out.cell (p := ⟨bp, _, none⟩) hbp).trans hc3
          have c4 := (HBw.out.cell (p := ⟨bp, _, none⟩) hbp).trans hc4
          have c5 := (HBw.out.cell (p := ⟨bp, _, none⟩) hbp).trans hc5
          have c6 := (HBw.out.cell (p := ⟨bp, _, none⟩) hbp).trans hc6
          have c7 := (HBw.out.cell (p := ⟨bp, _, none⟩) hbp).trans hc7
          simp only [List.getElem?_cons_zero, List.getElem?_cons_succ, Nat.add_zero] at c0 c1 c2 c3 c4 c5 c6 c7
          have HQ0 := hidI hq0
          have HQl := hidI hql
          have HQs := hidI hqs
          have HD := hidI (And.intro hd1 (And.intro hd2 (And.intro hd3 (And.intro hd4 hd5))))
          clear hc hc0 hc1 hc2 hc3 hc4 hc5 hc6 hc7 hq0 hql hqs hd1 hd2 hd3 hd4 hd5
          go_wp2_with fail
          refine (clone_vals b.list[k].args q c _ (HQs.out.mono (HBw.out.trans (by repeat (first | with_reducible exact Below.refl _ _ | with_reducible exact HB3.out | with_reducible refine Below.drew ?_ | with_reducible refine below_drewN ?_ _ | with_reducible refine Below.setCell ?_ ?_ _ | with_reducible refine Below.alloc ?_ ?_ _ | with_reducible exact HB2.out | with_reducible exact HB1.out | with_reducible refine Below.trans ?_ (Below.mono hb3 ?_) | with_reducible refine Below.trans ?_ (Below.mono hb5 ?_) | with_reducible refine Below.trans ?_ (Below.mono hb4 ?_) | omega | (simp; omega) | simp))) (by omega) fun _ _ g => g) HQ0.out HQl.out).mono ?_
          rintro e w5 ⟨p', c', rfl, ⟨S2, hS2, hL2⟩, hb5⟩
          have hr5 : Below wr.heap.size wr w5 := Below.trans (by repeat (first | with_reducible exact Below.refl _ _ | with_reducible exact HB3.out | with_reducible refine Below.drew ?_ | with_reducible refine below_drewN ?_ _ | with_reducible refine Below.setCell ?_ ?_ _ | with_reducible refine Below.alloc ?_ ?_ _ | with_reducible exact HB2.out | with_reducible exact HB1.out | with_reducible refine Below.trans ?_ (Below.mono hb3 ?_) | with_reducible refine Below.trans ?_ (Below.mono hb5 ?_) | with_reducible refine Below.trans ?_ (Below.mono hb4 ?_) | omega | (simp; omega) | simp)) (hb5.mono (by simp))
          have hu := heap_below hb5 (k := wr.heap.size) (by simp) (heap_here wr _)
          obtain ⟨hu0, hu1⟩ := blk hu
          have zu := (Array.getElem?_eq_some_iff.1 hu).1
          have hN5 : ¬ S wr.heap.size := fun h => by have := HO.out.inb _ h; omega
          have hL2' : ∀ k, S2 k → wr.heap.size + 1 ≤ k := fun k h => by have := hL2 k h; simpa using this
          have hN2 : ¬ S2 wr.heap.size := fun h => by have := hL2' _ h; omega
          have HO5 := hidI (HO.out.below locIns hr5)
          have HS2 := hidI hS2
          have HL2 := hidI hL2'
          have HR5 := hidI hr5
          have HNN := hidI (And.intro hN5 hN2)
          have hr5s := hr5.size
          clear hb5 hr5 hu hS2 hL2 hL2' hN5 hN2
          go_wp2_with (at_builtin; refine wpList_append_slo _ rfl _ _ 43 rfl 53 iI _ 8 80 Tryd.underlying43 l1 l2 l3 l4 rfl (by decide) locIns rfl (HO5.out.set_alloc locIns HNN.out.1 _ _) ⟨w5.heap.size, 0, none⟩ 1 [.int .i64 b.list[k].op, .int .i64 b.list[k].dst, .bool b.list[k].ar, .int .i64 b.list[k].an, .bool b.list[k].br, .int .i64 b.list[k].bn, .int .i64 b.list[k].fn, .slice p' b.list[k].args.length c'] b.list[k] rfl rfl ?hn ?ho (T := S2) ⟨_, rfl, HD.out.1, HD.out.2.1, HD.out.2.2.1, HD.out.2.2.2.1, HD.out.2.2.2.2, HS2.out.set_alloc locVal HNN.out.2 _ _⟩ ?ha ?ht ?hm ?hb ?_)
          case hn => exact cells_new _ _ _ (by simp [World.setCell])
          case ho => intro u hu; simp only [List.mem_cons, List.not_mem_nil, or_false] at hu; rcases hu with rfl | rfl | rfl | rfl | rfl | rfl | rfl | rfl <;> rfl
          case ha => exact fun k h1 h2 => by have := HO.out.inb k h1; have := HL2.out k h2; omega
          case ht => exact HS2.out.sl.inb.set_alloc _ _ _
          case hm => unfold maxLen; simp; omega
          case hb => simp; omega
          intro v2 w8 ⟨S', hO8, hsub, hK⟩
          have hrel : (∃ S, SlO 53 8 InsO w8 v2 (b.list.take (k + 1)) S ∧ LoB W1.heap.size S) ∧ Below W1.heap.size W1 w8 := by
            refine ⟨⟨S', by first | exact hO8 | (rw [List.take_succ_eq_append_getElem hlt]; exact hO8), fun k hk => ?_⟩, ?_⟩
            · rcases hsub k hk with h | h | h
              · exact HL.out k h
              · have := HL2.out k h; omega
              · simp [World.setCell] at h; omega
            · refine (((HB.out.trans (HR5.out.mono hsz)).setCell hsz _).alloc (by simp [World.setCell]; omega) _).trans (hK.below (by simp [World.setCell]; omega) HL.out)
          have HRel := hidI hrel
          clear hO8 hsub hK hrel
          go_wp2_with fail
          exact ⟨⟨k + 1, by omega, by go_num, HRel.out.1, HRel.out.2⟩, by simp [intOf]; omega⟩
        · obtain rfl : k = b.list.length := by omega
          rw [List.take_length] at HO
          have HOl := hidI HO.out
          have HLl := hidI HL.out
          clear HO HL
          obtain ⟨W2, hW2⟩ : ∃ W2, W2 = wr := ⟨_, rfl⟩
          rw [← hW2]
          rw [← hW2] at HOl HB HBw hsz
          obtain ⟨Sl, hSl⟩ : ∃ Sl, Sl = S := ⟨_, rfl⟩
          rw [← hSl] at HOl HLl
          have HB12 := hidI HB.out
          have hA2 := heap_below HB.out (k := w.heap.size) (by omega) (heap_below HB01.out (k := w.heap.size) (by omega) HA.out)
          have hZ2 := heap_below HB.out (k := w.heap.size + 1) (by omega) (heap_below HB01.out (k := w.heap.size + 1) (by omega) HZ.out)
          obtain ⟨ka, fa⟩ := blk hA2
          have kc0 : W2.cell? ⟨w.heap.size, 0, none⟩ = some (.slice q1 b.phis.length e1) := ka 0
          have kc1 : W2.cell? ⟨w.heap.size, 1, none⟩ = some (.slice q2 b.list.length e2) := ka 1
          have kc5 : W2.cell? ⟨w.heap.size, 5, none⟩ = some (.slice q3 b.fin.to.length e3) := ka 5
          have HA2 := hidI hA2
          have HZ2 := hidI hZ2
          have zz2 : w.heap.size < W2.heap.size := by omega
          have zz3 : w.heap.size + 1 < W2.heap.size := by omega
          clear HB hW2 hSl hA2 hZ2 ka k1c zz1
          go_wp2_with fail
          obtain ⟨W3, hW3⟩ : ∃ W3, W3 = (W2.setCell ⟨w.heap.size, 0, none⟩ (.slice vpA b.phis.length vcA)).setCell ⟨w.heap.size, 1, none⟩ (.slice vpB b.list.length vcB) := ⟨_, rfl⟩
          rw [← hW3]
          have hA3 : W3.heap[w.heap.size]? = some (.cells #[.slice vpA b.phis.length vcA, .slice vpB b.list.length vcB, .int .i64 b.fin.kind, .bool b.fin.onr, .int .i64 b.fin.onn, .slice q3 b.fin.to.length e3] 50 (0, 0)) := by
            rw [hW3, heap_set (heap_set HA2.out 0 _) 1 _]
            rfl
          have hO3 : ∀ k, k ≠ w.heap.size → W3.heap[k]? = W2.heap[k]? := fun k hk => by
            rw [hW3]
            exact (Go.Deep.blk_setCell_other _ ⟨w.heap.size, 1, none⟩ _ k hk).trans (Go.Deep.blk_setCell_other _ ⟨w.heap.size, 0, none⟩ _ k hk)
          have hs3 : W3.heap.size = W2.heap.size := by rw [hW3, Go.Deep.nblk_setCell, Go.Deep.nblk_setCell]
          have hB3 : Below w.heap.size w W3 := by rw [hW3]; exact (HBw.out.setCell (Nat.le_refl _) _).setCell (Nat.le_refl _) _
          obtain ⟨q3', e3', hq3, hqn, _, hql, hqs⟩ := HT.out
          cases hq3
          have HO3 := hidI hO3
          have HB3 := hidI hB3
          have HA3 := hidI hA3
          have HQn := hidI hqn
          have HQl := hidI hql
          have HQs := hidI hqs
          clear hO3 hB3 hA3 hqn hql hqs hW3 kc0 kc1 kc5 fa HT
          refine (clone_nums b.fin.to q3 e3 W3 (HQs.out.mono HB3.out (by omega) fun _ _ g => g) HQn.out HQl.out).mono ?_
          rintro e w9 ⟨p3, c3, rfl, ⟨S3, hS3, hL3⟩, hb9⟩
          have hA9 := heap_below hb9 (k := w.heap.size) (by omega) HA3.out
          have hZ9 := heap_below hb9 (k := w.heap.size + 1) (by omega) ((HO3.out (w.heap.size + 1) (by omega)).trans HZ2.out)
          obtain ⟨ka, fa⟩ := blk hA9
          obtain ⟨kz, fz⟩ := blk hZ9
          have zz4 := (Array.getElem?_eq_some_iff.1 hA9).1
          have zz5 := (Array.getElem?_eq_some_iff.1 hZ9).1
          have HA9 := hidI hA9
          have HZ9 := hidI hZ9
          have HS3 := hidI hS3
          have HL3 := hidI hL3
          have HB9 := hidI hb9
          clear hA9 hZ9 hS3 hL3 hb9
          go_wp2_with fail
          obtain ⟨WF, hWF⟩ : ∃ WF, WF = ((((((w9.setCell ⟨w.heap.size, 5, none⟩ (.slice p3 b.fin.to.length c3)).setCell ⟨w.heap.size + 1, 0, none⟩ (.slice vpA b.phis.length vcA)).setCell ⟨w.heap.size + 1, 1, none⟩ (.slice vpB b.list.length vcB)).setCell ⟨w.heap.size + 1, 2, none⟩ (.int .i64 b.fin.kind)).setCell ⟨w.heap.size + 1, 3, none⟩ (.bool b.fin.onr)).setCell ⟨w.heap.size + 1, 4, none⟩ (.int .i64 b.fin.onn)).setCell ⟨w.heap.size + 1, 5, none⟩ (.slice p3 b.fin.to.length c3) := ⟨_, rfl⟩
          rw [← hWF]
          have hF1 : WF.heap[w.heap.size + 1]? = some (.cells #[.slice vpA b.phis.length vcA, .slice vpB b.list.length vcB, .int .i64 b.fin.kind, .bool b.fin.onr, .int .i64 b.fin.onn, .slice p3 b.fin.to.length c3] 50 (0, 0)) := by
            rw [hWF, heap_set (heap_set (heap_set (heap_set (heap_set (heap_set ((Go.Deep.blk_setCell_other w9 ⟨w.heap.size, 5, none⟩ _ (w.heap.size + 1) (fun e => by have e2 : w.heap.size + 1 = w.heap.size := e; omega)).trans HZ9.out) 0 _) 1 _) 2 _) 3 _) 4 _) 5 _]
            rfl
          have hFo : ∀ k, k ≠ w.heap.size → k ≠ w.heap.size + 1 → WF.heap[k]? = w9.heap[k]? := fun k h1 h2 => by
            rw [hWF]
            repeat rw [Go.Deep.blk_setCell_other _ _ _ _ (by assumption)]
          have hFs : WF.heap.size = w9.heap.size := by rw [hWF]; simp [World.setCell]
          have hFb : Below w.heap.size w9 WF := by
            rw [hWF]
            repeat (first | with_reducible exact Below.refl _ _ | with_reducible exact HB3.out | with_reducible refine Below.drew ?_ | with_reducible refine below_drewN ?_ _ | with_reducible refine Below.setCell ?_ ?_ _ | with_reducible refine Below.alloc ?_ ?_ _ | with_reducible exact HB2.out | with_reducible exact HB1.out | with_reducible refine Below.trans ?_ (Below.mono hb3 ?_) | with_reducible refine Below.trans ?_ (Below.mono hb5 ?_) | with_reducible refine Below.trans ?_ (Below.mono hb4 ?_) | omega | (simp; omega) | simp)
          have hz9 := HB9.out.size
          have hz12 := HB12.out.size
          have k0 := (blk hF1).1 0
          have k1' := (blk hF1).1 1
          have k2' := (blk hF1).1 2
          have k3' := (blk hF1).1 3
          have k4' := (blk hF1).1 4
          have k5' := (blk hF1).1 5
          clear hWF
          refine bodyPost_ret (v := .agg #[.slice vpA b.phis.length vcA, .slice vpB b.list.length vcB, .int .i64 b.fin.kind, .bool b.fin.onr, .int .i64 b.fin.onn, .slice p3 b.fin.to.length c3]) ?_ rfl ⟨⟨vpA, vcA, vpB, vcB, p3, c3, rfl, fun k => Sp k ∨ Sl k ∨ S3 k, ?_, ?_⟩, ?_⟩
          · simp [results, Tryd.results111, go_sem, k0, k1', k2', k3', k4', k5']
          · have f29 : ∀ k, w.heap.size + 1 < k → k < W2.heap.size → WF.heap[k]? = W2.heap[k]? := fun k h1 h2 => (hFo k (by omega) (by omega)).trans ((HB9.out.block k (by omega)).trans (HO3.out k (by omega)))
            have hOp := (HOp.out.below locPhi HB12.out).loc (w' := WF) locPhi (fun k hk => f29 k (by have := HLp.out k hk; omega) (by have := HOp.out.inb k hk; omega)) (by omega)
            have hOl := HOl.out.loc (w' := WF) locIns (fun k hk => f29 k (by have := HLl.out k hk; omega) (HOl.out.inb k hk)) (by omega)
            have hO3 := HS3.out.sl.loc (w' := WF) locInt (fun k hk => hFo k (by have := HL3.out k hk; omega) (by have := HL3.out k hk; omega)) (by omega)
            refine ⟨_, _, _, Sp, Sl, S3, rfl, HI1.out, HI2.out, ⟨hOp, HBd.out.1⟩, ⟨hOl, HBd.out.2.1⟩, ⟨hO3, HBd.out.2.2⟩, fun k a c => ?_, fun k a c => ?_, fun k a c => ?_, fun _ h => .inl h, fun _ h => .inr (.inl h), fun _ h => .inr (.inr h)⟩
            · have := HOp.out.inb k a; have := HLl.out k c; omega
            · have := HOp.out.inb k a; have := HL3.out k c; omega
            · have := HOl.out.inb k a; have := HL3.out k c; omega
          · rintro k (h | h | h)
            · have := HLp.out k h; omega
            · have := HLl.out k h; omega
            · have := HL3.out k h; omega
          · exact (HB3.out.trans (HB9.out.mono (by omega))).trans hFb
end Go.Proofs.YtdjamkinijhjoaaDoor
