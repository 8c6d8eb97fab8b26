/-
  The contracts of ssa's checker: write a register, is a value known.
  The contracts of span.spans' closures: what a value is between, and put.
-/
import Derived.WalkKit
import Derived.WalkSpells
import Derived.WalkLawsBesides
import Derived.Test.YtdjamkinijhjoaaDoorJDomC
import Derived.Test.YtdjamkinijhjoaaDoorSpnG
namespace Go.Proofs.YtdjamkinijhjoaaDoor
open Go.RowKit

/-- where each register is written: block and place -/
def wrF (wb : Nat → Int × Int) (j : Nat) : Value := .int .i64 (if j % 2 = 0 then (wb (j / 2)).1 else (wb (j / 2)).2)
def wrPut (wb : Nat → Int × Int) (r : Nat) (b a : Int) : Nat → Int × Int := fun i => if i = r ∧ (wb r).1 < 0 then (b, a) else wb i
theorem wrF_0 (wb : Nat → Int × Int) (r : Nat) : wrF wb (r * 2) = .int .i64 (wb r).1 := by
  have e : r * 2 / 2 = r := by omega
  unfold wrF
  rw [if_pos (by omega), e]
theorem wrF_1 (wb : Nat → Int × Int) (r : Nat) : wrF wb (r * 2 + 1) = .int .i64 (wb r).2 := by
  have e : (r * 2 + 1) / 2 = r := by omega
  unfold wrF
  rw [if_neg (by omega), e]
theorem wrPut_no {wb : Nat → Int × Int} {r : Nat} {b a : Int} (h : ¬ (wb r).1 < 0) : wrPut wb r b a = wb := by
  funext i; unfold wrPut; rw [if_neg (fun g => h g.2)]
theorem wrPut_row {wb : Nat → Int × Int} {r : Nat} {b a : Int} (h : (wb r).1 < 0) {w : World} {B n : Nat} {t : TypeId} (hR : w.rowIs B t n (wrF wb)) :
    ((w.setCell ⟨B, r * 2, none⟩ (.int .i64 b)).setCell ⟨B, r * 2 + 1, none⟩ (.int .i64 a)).rowIs B t n (wrF (wrPut wb r b a)) := by
  refine ((hR.set (r * 2) (.int .i64 b)).set (r * 2 + 1) (.int .i64 a)).congr fun j _ => ?_
  by_cases e : j / 2 = r
  · have hj : j = r * 2 ∨ j = r * 2 + 1 := by omega
    rcases hj with rfl | rfl
    · rw [if_neg (by omega), if_pos rfl, wrF_0]
      unfold wrPut; rw [if_pos ⟨rfl, h⟩]
    · rw [if_pos rfl, wrF_1]
      unfold wrPut; rw [if_pos ⟨rfl, h⟩]
  · rw [if_neg (by omega), if_neg (by omega)]
    unfold wrF wrPut
    have e2 : ¬ (j / 2 = r ∧ (wb r).1 < 0) := fun g => e g.1
    simp only [e2, if_false]

set_option maxRecDepth 100000 in
set_option maxHeartbeats 1000000 in
theorem write_any (C B R r : Nat) (b a : Int) (wb : Nat → Int × Int) (w : World) (hr : r < R) (_hR0 : R ≤ 1000) (hbox : w.cell? ⟨C, 5, none⟩ = some (.slice (some ⟨B, 0, none⟩) R R)) (hR : w.rowIs B 122 (R * 2) (wrF wb)) :
    Calls Tryd.prog 107 #[.pointer (some ⟨C, 0, none⟩), .int .i64 r, .int .i64 b, .int .i64 a] w fun e w' => e = .returned (.bool (decide ((wb r).1 < 0))) ∧ w'.rowIs B 122 (R * 2) (wrF (wrPut wb r b a)) ∧ Kept (fun k => k = B) w w' := by
  have c0 := hR.cell (i := r * 2) (by omega)
  have c1 := hR.cell (i := r * 2 + 1) (by omega)
  have f0 := hR.frozen (r * 2)
  have f1 := hR.frozen (r * 2 + 1)
  rw [wrF_0] at c0
  rw [wrF_1] at c1
  have HR := hidI hR
  clear hR
  by_cases h : (wb r).1 < 0
  · have h2 : decide (0 ≤ (wb r).1) = false := by simp; omega
    have H := hidI h
    have hd : decide ((wb r).1 < 0) = true := by simp [h]
    rw [hd]
    clear h hd
    go_enter Tryd.func107, Tryd.ntmps107
    go_wp2
    go_ret
    exact ⟨rfl, wrPut_row H.out HR.out, Kept.setCell (p := ⟨B, _, none⟩) (Kept.setCell (p := ⟨B, _, none⟩) (Kept.refl (fun k => k = B) w) rfl _) rfl _⟩
  · have h2 : decide (0 ≤ (wb r).1) = true := by simp; omega
    have H := hidI h
    have hd : decide ((wb r).1 < 0) = false := by simp; omega
    rw [hd]
    clear h hd
    go_enter Tryd.func107, Tryd.ntmps107
    go_wp2
    go_ret
    exact ⟨rfl, by rw [wrPut_no (by have := H.out; omega)]; exact HR.out, Kept.refl _ _⟩

/-- is what a value names written ahead of a place in a block? -/
def knB (wb : Nat → Int × Int) (u : Nat → Int) (pl : Nat → Nat) (vr : Bool) (vn : Int) (block : Nat) (at_ : Int) : Bool :=
  if vr = false then true
  else if (wb vn.toNat).1 < 0 then false
  else if (wb vn.toNat).1 = block then decide ((wb vn.toNat).2 < at_)
  else rulesN u (wb vn.toNat).1.toNat (pl block + 2) block
/-- the tree as dom.Rules wants it -/
def TreeU (n : Nat) (u : Nat → Int) (pl : Nat → Nat) : Prop := ∀ c, c < n → -1 ≤ u c ∧ u c < n ∧ (0 ≤ u c → pl (u c).toNat < pl c)
set_option maxRecDepth 100000 in
set_option maxHeartbeats 1000000 in
theorem known_any (C B R U n block : Nat) (vr : Bool) (vn at_ : Int) (wb : Nat → Int × Int) (u : Nat → Int) (pl : Nat → Nat) (w : World) (hv : vr = true → 0 ≤ vn ∧ vn < R) (_hR0 : R ≤ 1000) (hbox : w.cell? ⟨C, 5, none⟩ = some (.slice (some ⟨B, 0, none⟩) R R)) (hbox4 : w.cell? ⟨C, 4, none⟩ = some (.slice (some ⟨U, 0, none⟩) n n))
    (hR : w.rowIs B 122 (R * 2) (wrF wb)) (hU : w.rowIs U 3 n (fun j => .int .i64 (u j))) (hT : TreeU n u pl) (hwb : ∀ r, r < R → (wb r).1 < n) (hb : block < n) :
    Calls Tryd.prog 108 #[.pointer (some ⟨C, 0, none⟩), .agg #[.bool vr, .int .i64 vn], .int .i64 block, .int .i64 at_] w fun e w' => e = .returned (.bool (knB wb u pl vr vn block at_)) ∧ Below w.heap.size w w' := by
  cases vr with
  | false =>
    clear hR hU hT
    go_enter Tryd.func108, Tryd.ntmps108
    go_wp2
    go_ret
    exact ⟨rfl, by repeat (first | with_reducible exact Below.refl _ _ | with_reducible exact HB3.out | with_reducible refine Below.drew ?_ | with_reducible refine below_drewN ?_ _ | with_reducible refine Below.setCell ?_ ?_ _ | with_reducible refine Below.alloc ?_ ?_ _ | with_reducible exact HB2.out | with_reducible exact HB1.out | with_reducible refine Below.trans ?_ (Below.mono hb3 ?_) | with_reducible refine Below.trans ?_ (Below.mono hb5 ?_) | with_reducible refine Below.trans ?_ (Below.mono hb4 ?_) | omega | (simp; omega) | simp)⟩
  | true =>
    obtain ⟨h1, h2⟩ := hv rfl
    obtain ⟨r, rfl⟩ : ∃ r : Nat, vn = r := ⟨vn.toNat, by omega⟩
    have hr : r < R := by omega
    have c0 := hR.cell (i := r * 2) (by omega)
    have c1 := hR.cell (i := r * 2 + 1) (by omega)
    have hwr := hwb r hr
    rw [wrF_0] at c0
    rw [wrF_1] at c1
    have hzC := lt_of_cell hbox
    have hzB := hR.lt
    have HU := hidI hU
    have HT := hidI hT
    have HK : Hid (knB wb u pl true (r : Int) block at_ = if (wb r).1 < 0 then false else if (wb r).1 = block then decide ((wb r).2 < at_) else rulesN u (wb r).1.toNat (pl block + 2) block) := hidI (by unfold knB; simp)
    clear hR hU hT hv h1 h2 hwb
    obtain ⟨⟨x, y⟩, hxy⟩ : ∃ p, p = wb r := ⟨_, rfl⟩
    rw [← hxy] at c0 c1 hwr HK
    clear hxy
    simp only at c0 c1 hwr HK
    by_cases hx : x < 0
    · rw [if_pos hx] at HK
      go_enter Tryd.func108, Tryd.ntmps108
      go_wp2_with fail
      go_region
      all_goals go_wp2
      all_goals go_ret
      all_goals exact ⟨by rw [HK.out]; rfl, by repeat (first | with_reducible exact Below.refl _ _ | with_reducible exact HB3.out | with_reducible refine Below.drew ?_ | with_reducible refine below_drewN ?_ _ | with_reducible refine Below.setCell ?_ ?_ _ | with_reducible refine Below.alloc ?_ ?_ _ | with_reducible exact HB2.out | with_reducible exact HB1.out | with_reducible refine Below.trans ?_ (Below.mono hb3 ?_) | with_reducible refine Below.trans ?_ (Below.mono hb5 ?_) | with_reducible refine Below.trans ?_ (Below.mono hb4 ?_) | omega | (simp; omega) | simp)⟩
    · rw [if_neg hx] at HK
      obtain ⟨x, rfl⟩ : ∃ k : Nat, x = k := ⟨x.toNat, by omega⟩
      by_cases he : (x : Int) = block
      · rw [if_pos he] at HK
        obtain rfl : x = block := by omega
        go_enter Tryd.func108, Tryd.ntmps108
        go_wp2_with fail
        go_region
        all_goals go_wp2
        all_goals go_ret
        all_goals exact ⟨by rw [HK.out]; rfl, by repeat (first | with_reducible exact Below.refl _ _ | with_reducible exact HB3.out | with_reducible refine Below.drew ?_ | with_reducible refine below_drewN ?_ _ | with_reducible refine Below.setCell ?_ ?_ _ | with_reducible refine Below.alloc ?_ ?_ _ | with_reducible exact HB2.out | with_reducible exact HB1.out | with_reducible refine Below.trans ?_ (Below.mono hb3 ?_) | with_reducible refine Below.trans ?_ (Below.mono hb5 ?_) | with_reducible refine Below.trans ?_ (Below.mono hb4 ?_) | omega | (simp; omega) | simp)⟩
      · rw [if_neg he] at HK
        have hxn : x < n := by omega
        have hrl := fun w' (h : Below w.heap.size w w') => rules_any (w := w') (rowI_below HU.out h) HT.out x block hxn hb
        rw [Int.toNat_natCast] at HK
        rw [← HK.out] at hrl
        have HRL := hidI hrl
        clear hrl
        go_enter Tryd.func108, Tryd.ntmps108
        go_wp2_with fail
        go_region
        go_wp2_with fail
        go_region_with (go_at_call 134; refine (HRL.out _ (by repeat (first | with_reducible exact Below.refl _ _ | with_reducible exact HB3.out | with_reducible refine Below.drew ?_ | with_reducible refine below_drewN ?_ _ | with_reducible refine Below.setCell ?_ ?_ _ | with_reducible refine Below.alloc ?_ ?_ _ | with_reducible exact HB2.out | with_reducible exact HB1.out | with_reducible refine Below.trans ?_ (Below.mono hb3 ?_) | with_reducible refine Below.trans ?_ (Below.mono hb5 ?_) | with_reducible refine Below.trans ?_ (Below.mono hb4 ?_) | omega | (simp; omega) | simp))).mono ?_; rintro e w2 ⟨rfl, hb2⟩; have HB2 : Hid (Below w.heap.size w w2) := Below.trans (by repeat (first | with_reducible exact Below.refl _ _ | with_reducible exact HB3.out | with_reducible refine Below.drew ?_ | with_reducible refine below_drewN ?_ _ | with_reducible refine Below.setCell ?_ ?_ _ | with_reducible refine Below.alloc ?_ ?_ _ | with_reducible exact HB2.out | with_reducible exact HB1.out | with_reducible refine Below.trans ?_ (Below.mono hb3 ?_) | with_reducible refine Below.trans ?_ (Below.mono hb5 ?_) | with_reducible refine Below.trans ?_ (Below.mono hb4 ?_) | omega | (simp; omega) | simp)) (hb2.mono (by first | (simp; done) | (simp; omega))); clear hb2)
        all_goals go_wp2
        all_goals go_ret
        all_goals exact ⟨rfl, by repeat (first | with_reducible exact Below.refl _ _ | with_reducible exact HB3.out | with_reducible refine Below.drew ?_ | with_reducible refine below_drewN ?_ _ | with_reducible refine Below.setCell ?_ ?_ _ | with_reducible refine Below.alloc ?_ ?_ _ | with_reducible exact HB2.out | with_reducible exact HB1.out | with_reducible refine Below.trans ?_ (Below.mono hb3 ?_) | with_reducible refine Below.trans ?_ (Below.mono hb5 ?_) | with_reducible refine Below.trans ?_ (Below.mono hb4 ?_) | omega | (simp; omega) | simp)⟩
end Go.Proofs.YtdjamkinijhjoaaDoor
namespace Go.Proofs.YtdjamkinijhjoaaDoor
open Go.RowKit

def spF (l : Nat → Spn) (j : Nat) : Value := if j % 3 = 0 then .int .i64 (l (j / 3)).lo else if j % 3 = 1 then .int .i64 (l (j / 3)).hi else .bool (l (j / 3)).has
theorem spF_0 (l : Nat → Spn) (r : Nat) : spF l (r * 3) = .int .i64 (l r).lo := by
  have e : r * 3 / 3 = r := by omega
  unfold spF
  rw [if_pos (by omega), e]
theorem spF_1 (l : Nat → Spn) (r : Nat) : spF l (r * 3 + 1) = .int .i64 (l r).hi := by
  have e : (r * 3 + 1) / 3 = r := by omega
  unfold spF
  rw [if_neg (by omega), if_pos (by omega), e]
theorem spF_2 (l : Nat → Spn) (r : Nat) : spF l (r * 3 + 2) = .bool (l r).has := by
  have e : (r * 3 + 2) / 3 = r := by omega
  unfold spF
  rw [if_neg (by omega), if_neg (by omega), e]
theorem spRow_set {l : Nat → Spn} {d : Nat} (s : Spn) {w : World} {B n : Nat} {t : TypeId} (hR : w.rowIs B t n (spF l)) :
    (((w.setCell ⟨B, d * 3, none⟩ (.int .i64 s.lo)).setCell ⟨B, d * 3 + 1, none⟩ (.int .i64 s.hi)).setCell ⟨B, d * 3 + 2, none⟩ (.bool s.has)).rowIs B t n (spF (setS l d s)) := by
  refine (((hR.set (d * 3) (.int .i64 s.lo)).set (d * 3 + 1) (.int .i64 s.hi)).set (d * 3 + 2) (.bool s.has)).congr fun j _ => ?_
  by_cases e : j / 3 = d
  · have hj : j = d * 3 ∨ j = d * 3 + 1 ∨ j = d * 3 + 2 := by omega
    rcases hj with rfl | rfl | rfl
    · rw [if_neg (by omega), if_neg (by omega), if_pos rfl, spF_0, setS_self]
    · rw [if_neg (by omega), if_pos rfl, spF_1, setS_self]
    · rw [if_pos rfl, spF_2, setS_self]
  · rw [if_neg (by omega), if_neg (by omega), if_neg (by omega)]
    unfold spF
    rw [setS_other e]
theorem run_eqSpn (a b a' b' : Int) (c c' : Bool) (w : World) :
    (binOp .eql 74 (.agg #[.int .i64 a, .int .i64 b, .bool c]) (.agg #[.int .i64 a', .int .i64 b', .bool c'])).run Tryd.prog w = .ok (.bool (a == a' && b == b' && c == c')) w := by
  by_cases h1 : a = a' <;> by_cases h2 : b = b' <;> cases c <;> cases c' <;> simp [go_sem, h1, h2]

set_option maxRecDepth 100000 in
set_option maxHeartbeats 1000000 in
theorem spVal_any (X O n : Nat) (l : Nat → Spn) (r : Bool) (m : Int) (w : World) (_hn : n ≤ 1000) (hX : w.cell? ⟨X, 0, none⟩ = some (.slice (some ⟨O, 0, none⟩) n n)) (hT : w.rowIs O 74 (n * 3) (spF l)) (hv : r = true → 0 ≤ m ∧ m < n) :
    Calls Tryd.prog 49 #[.agg #[.bool r, .int .i64 m], .pointer (some ⟨X, 0, none⟩)] w fun e w' => e = .returned (.agg (spC (vlS l (r, m)))) ∧ Below w.heap.size w w' := by
  have hzX := lt_of_cell hX
  cases r with
  | false =>
    rw [show vlS l (false, m) = ofS m m from rfl]
    clear hT hv
    go_enter Tryd.func49, Tryd.ntmps49
    go_wp2_with (go_at_call 50; refine (spanJust_any _ _).mono ?_; rintro e w1 ⟨rfl, rfl⟩)
    refine bodyPost_ret (v := .agg (spC (ofS m m))) ?_ rfl ⟨rfl, ?_⟩
    · simp [results, Tryd.results49, go_sem, spC, ofS]
    · repeat (first | with_reducible exact Below.refl _ _ | with_reducible exact HB3.out | with_reducible refine Below.drew ?_ | with_reducible refine below_drewN ?_ _ | with_reducible refine Below.setCell ?_ ?_ _ | with_reducible refine Below.alloc ?_ ?_ _ | with_reducible exact HB2.out | with_reducible exact HB1.out | with_reducible refine Below.trans ?_ (Below.mono hb3 ?_) | with_reducible refine Below.trans ?_ (Below.mono hb5 ?_) | with_reducible refine Below.trans ?_ (Below.mono hb4 ?_) | omega | (simp; omega) | simp)
  | true =>
    obtain ⟨h1, h2⟩ := hv rfl
    obtain ⟨q, rfl⟩ : ∃ q : Nat, m = q := ⟨m.toNat, by omega⟩
    have hq : q < n := by omega
    have c0 := hT.cell (i := q * 3) (by omega)
    have c1 := hT.cell (i := q * 3 + 1) (by omega)
    have c2 := hT.cell (i := q * 3 + 2) (by omega)
    have hO := hT.lt
    rw [spF_0] at c0
    rw [spF_1] at c1
    rw [spF_2] at c2
    rw [show vlS l (true, (q : Int)) = l q from rfl]
    clear hT hv h1 h2
    obtain ⟨⟨a, b, s⟩, hs⟩ : ∃ s, s = l q := ⟨_, rfl⟩
    rw [← hs] at c0 c1 c2 ⊢
    clear hs
    simp only at c0 c1 c2
    go_enter Tryd.func49, Tryd.ntmps49
    go_wp2_with fail
    refine bodyPost_ret (v := .agg (spC ⟨a, b, s⟩)) ?_ rfl ⟨rfl, ?_⟩
    · simp [results, Tryd.results49, go_sem, spC]
    · repeat (first | with_reducible exact Below.refl _ _ | with_reducible exact HB3.out | with_reducible refine Below.drew ?_ | with_reducible refine below_drewN ?_ _ | with_reducible refine Below.setCell ?_ ?_ _ | with_reducible refine Below.alloc ?_ ?_ _ | with_reducible exact HB2.out | with_reducible exact HB1.out | with_reducible refine Below.trans ?_ (Below.mono hb3 ?_) | with_reducible refine Below.trans ?_ (Below.mono hb5 ?_) | with_reducible refine Below.trans ?_ (Below.mono hb4 ?_) | omega | (simp; omega) | simp)

/-- a walk stops at a region -/
theorem stop_at {P : Program} {ops : Array Oper} {b : Bool} {Q : Exit → Act → World → Prop} {a : Act} {w : World} (n : Nat) (h : Code.wp P (.region n ops b) Q a w) : Code.wp P (.region n ops b) Q a w := h

/-- the world within put -/
structure PutW (w : World) (O A n : Nat) (l : Nat → Spn) (ag : Bool) (x y : Spn) (w' : World) : Prop where
  kept : Kept (fun k => k = O ∨ k = A) w w'
  x : w'.heap[w.heap.size]? = some (.cells #[.int .i64 x.lo, .int .i64 x.hi, .bool x.has] 74 (0, 0))
  y : w'.heap[w.heap.size + 1]? = some (.cells #[.int .i64 y.lo, .int .i64 y.hi, .bool y.has] 74 (0, 0))
  row : w'.rowIs O 74 (n * 3) (spF l)
  ag : w'.heap[A]? = some (.cells #[.bool ag] 4 (0, 0))
  o : O < w.heap.size
  a : A < w.heap.size
  oa : O ≠ A
theorem kept_high {S : Blks} {w w' : World} (h : Kept S w w') {p : Addr} (hp : w.heap.size ≤ p.block) (v : Value) : Kept S w (w'.setCell p v) :=
  ⟨h.os, h.tape, h.output, by rw [Go.Deep.nblk_setCell]; exact h.size, fun k hk hn => (Go.Deep.blk_setCell_other w' p v k (fun e => by omega)).trans (h.block k hk hn)⟩
theorem PutW.lo {w w' : World} {O A n : Nat} {l : Nat → Spn} {ag : Bool} {x y : Spn} (h : PutW w O A n l ag x y w') (v : Int) : PutW w O A n l ag ⟨v, x.hi, x.has⟩ y (w'.setCell ⟨w.heap.size, 0, none⟩ (.int .i64 v)) :=
  ⟨kept_high h.kept (Nat.le_refl _) _, by rw [row_set h.x]; rfl, (Go.Deep.blk_setCell_other _ _ _ _ (by show w.heap.size + 1 ≠ w.heap.size; omega)).trans h.y,
    h.row.of_block (Go.Deep.blk_setCell_other _ _ _ _ (by show O ≠ w.heap.size; have := h.o; omega)), (Go.Deep.blk_setCell_other _ _ _ _ (by show A ≠ w.heap.size; have := h.a; omega)).trans h.ag, h.o, h.a, h.oa⟩
theorem PutW.hi {w w' : World} {O A n : Nat} {l : Nat → Spn} {ag : Bool} {x y : Spn} (h : PutW w O A n l ag x y w') (v : Int) : PutW w O A n l ag ⟨x.lo, v, x.has⟩ y (w'.setCell ⟨w.heap.size, 1, none⟩ (.int .i64 v)) :=
  ⟨kept_high h.kept (Nat.le_refl _) _, by rw [row_set h.x]; rfl, (Go.Deep.blk_setCell_other _ _ _ _ (by show w.heap.size + 1 ≠ w.heap.size; omega)).trans h.y,
    h.row.of_block (Go.Deep.blk_setCell_other _ _ _ _ (by show O ≠ w.heap.size; have := h.o; omega)), (Go.Deep.blk_setCell_other _ _ _ _ (by show A ≠ w.heap.size; have := h.a; omega)).trans h.ag, h.o, h.a, h.oa⟩
theorem PutW.has {w w' : World} {O A n : Nat} {l : Nat → Spn} {ag : Bool} {x y : Spn} (h : PutW w O A n l ag x y w') (v : Bool) : PutW w O A n l ag ⟨x.lo, x.hi, v⟩ y (w'.setCell ⟨w.heap.size, 2, none⟩ (.bool v)) :=
  ⟨kept_high h.kept (Nat.le_refl _) _, by rw [row_set h.x]; rfl, (Go.Deep.blk_setCell_other _ _ _ _ (by show w.heap.size + 1 ≠ w.heap.size; omega)).trans h.y,
    h.row.of_block (Go.Deep.blk_setCell_other _ _ _ _ (by show O ≠ w.heap.size; have := h.o; omega)), (Go.Deep.blk_setCell_other _ _ _ _ (by show A ≠ w.heap.size; have := h.a; omega)).trans h.ag, h.o, h.a, h.oa⟩
theorem PutW.put {w w' : World} {O A n : Nat} {l : Nat → Spn} {ag : Bool} {x y : Spn} (h : PutW w O A n l ag x y w') : PutW w O A n l true x y (w'.setCell ⟨A, 0, none⟩ (.bool true)) :=
  ⟨h.kept.setCell (.inr rfl) _, (Go.Deep.blk_setCell_other _ _ _ _ (by show w.heap.size ≠ A; have := h.a; omega)).trans h.x, (Go.Deep.blk_setCell_other _ _ _ _ (by show w.heap.size + 1 ≠ A; have := h.a; omega)).trans h.y,
    h.row.of_block (Go.Deep.blk_setCell_other _ _ _ _ h.oa), by rw [row_set h.ag]; rfl, h.o, h.a, h.oa⟩
theorem PutW.start {w w1 : World} {O A n : Nat} {l : Nat → Spn} {ag : Bool} {x y : Spn} (hT : w.rowIs O 74 (n * 3) (spF l)) (hA : w.heap[A]? = some (.cells #[.bool ag] 4 (0, 0))) (oa : O ≠ A)
    (hb : Below (w.heap.size + 1 + 1) ((w.alloc (.cells #[.int .i64 x.lo, .int .i64 x.hi, .bool x.has] 74)).alloc (.cells #[.int .i64 y.lo, .int .i64 y.hi, .bool y.has] 74)) w1) : PutW w O A n l ag x y w1 := by
  obtain ⟨W, hW⟩ : ∃ W, W = (w.alloc (.cells #[.int .i64 x.lo, .int .i64 x.hi, .bool x.has] 74)).alloc (.cells #[.int .i64 y.lo, .int .i64 y.hi, .bool y.has] 74) := ⟨_, rfl⟩
  rw [← hW] at hb
  have h0 : Below w.heap.size w W := by rw [hW]; repeat (first | with_reducible exact Below.refl _ _ | with_reducible exact HB3.out | with_reducible refine Below.drew ?_ | with_reducible refine below_drewN ?_ _ | with_reducible refine Below.setCell ?_ ?_ _ | with_reducible refine Below.alloc ?_ ?_ _ | with_reducible exact HB2.out | with_reducible exact HB1.out | with_reducible refine Below.trans ?_ (Below.mono hb3 ?_) | with_reducible refine Below.trans ?_ (Below.mono hb5 ?_) | with_reducible refine Below.trans ?_ (Below.mono hb4 ?_) | omega | (simp; omega) | simp)
  have h1 := h0.trans (hb.mono (by omega))
  have zA := ltHeap hA
  exact ⟨Kept.of_below h1, (hb.block w.heap.size (by omega)).trans (by rw [hW]; exact heap_step (heap_here w _)), (hb.block (w.heap.size + 1) (by omega)).trans (by rw [hW]; exact heap_at (by simp)),
    hT.of_block (h1.block O hT.lt), (h1.block A zA).trans hA, hT.lt, zA, oa⟩
/-- out[dst] = s, and done -/
theorem PutW.done {w w' : World} {O A n d : Nat} {l : Nat → Spn} {ag : Bool} {x y : Spn} (h : PutW w O A n l ag x y w') {s : Spn} (hs : s = x) :
    (((w'.setCell ⟨O, d * 3, none⟩ (.int .i64 s.lo)).setCell ⟨O, d * 3 + 1, none⟩ (.int .i64 s.hi)).setCell ⟨O, d * 3 + 2, none⟩ (.bool s.has)).rowIs O 74 (n * 3) (spF (setS l d x)) ∧
    (((w'.setCell ⟨O, d * 3, none⟩ (.int .i64 s.lo)).setCell ⟨O, d * 3 + 1, none⟩ (.int .i64 s.hi)).setCell ⟨O, d * 3 + 2, none⟩ (.bool s.has)).heap[A]? = some (.cells #[.bool ag] 4 (0, 0)) ∧
    Kept (fun k => k = O ∨ k = A) w (((w'.setCell ⟨O, d * 3, none⟩ (.int .i64 s.lo)).setCell ⟨O, d * 3 + 1, none⟩ (.int .i64 s.hi)).setCell ⟨O, d * 3 + 2, none⟩ (.bool s.has)) := by
  subst hs
  have hne : A ≠ O := fun e => h.oa e.symm
  exact ⟨spRow_set s h.row, (Go.Deep.blk_setCell_other _ _ _ _ hne).trans ((Go.Deep.blk_setCell_other _ _ _ _ hne).trans ((Go.Deep.blk_setCell_other _ _ _ _ hne).trans h.ag)),
    ((h.kept.setCell (.inl rfl) _).setCell (.inl rfl) _).setCell (.inl rfl) _⟩
theorem widS_lo {turn : Nat} {old s : Spn} (h : 2 < turn ∧ old.has = true) : widS turn old s = ⟨if s.lo < old.lo then minI else s.lo, if old.hi < s.hi then maxI else s.hi, s.has⟩ := if_pos h

set_option maxRecDepth 100000 in
set_option maxHeartbeats 4000000 in
theorem put_any (X O A T n d turn : Nat) (l : Nat → Spn) (s : Spn) (ag : Bool) (w : World) (_hn : n ≤ 1000) (hd : d < n) (ht : turn < 1000000000) (hX : w.cell? ⟨X, 0, none⟩ = some (.slice (some ⟨O, 0, none⟩) n n)) (hT : w.rowIs O 74 (n * 3) (spF l)) (hA : w.heap[A]? = some (.cells #[.bool ag] 4 (0, 0))) (hU : w.cell? ⟨T, 0, none⟩ = some (.int .i64 turn))
    (xo : X ≠ O) (xa : X ≠ A) (oa : O ≠ A) (to : T ≠ O) (ta : T ≠ A) :
    Calls Tryd.prog 51 #[.int .i64 d, .agg #[.int .i64 s.lo, .int .i64 s.hi, .bool s.has], .pointer (some ⟨X, 0, none⟩), .pointer (some ⟨A, 0, none⟩), .pointer (some ⟨T, 0, none⟩)] w fun e w' => e = .returned (.tuple #[]) ∧ w'.rowIs O 74 (n * 3) (spF (putSp turn l d s)) ∧ w'.heap[A]? = some (.cells #[.bool (ag || chgS l d s)] 4 (0, 0)) ∧ Kept (fun k => k = O ∨ k = A) w w' := by
  have zO := hT.lt
  have c0 := hT.cell (i := d * 3) (by omega)
  have c1 := hT.cell (i := d * 3 + 1) (by omega)
  have c2 := hT.cell (i := d * 3 + 2) (by omega)
  rw [spF_0] at c0
  rw [spF_1] at c1
  rw [spF_2] at c2
  have zX := lt_of_cell hX
  have zA := ltHeap hA
  have zT := lt_of_cell hU
  have HX := hidI hX
  have HU := hidI hU
  have HJ := hidI (spanJoin_any (l d) s)
  have HP := hidI (show putSp turn l d s = setS l d (if eqS (joinS (l d) s) (l d) = true then l d else widS turn (l d) (joinS (l d) s)) from rfl)
  have HC := hidI (show chgS l d s = !eqS (joinS (l d) s) (l d) from rfl)
  have HS := hidI (show setS l d (l d) = l from setS_same)
  obtain ⟨⟨ol, oh, os⟩, ho⟩ : ∃ x, x = l d := ⟨_, rfl⟩
  have HW := hidI (fun w1 => PutW.start (w := w) (w1 := w1) (x := s) (y := ⟨ol, oh, os⟩) hT hA oa)
  rw [← ho] at c0 c1 c2 HJ HP HC HS
  clear ho hT hA
  obtain ⟨⟨jl, jh, js⟩, hj⟩ : ∃ x, x = joinS ⟨ol, oh, os⟩ s := ⟨_, rfl⟩
  rw [← hj] at HJ HP HC
  clear hj
  simp only [spC] at HJ
  simp only at c0 c1 c2 HW
  go_enter Tryd.func51, Tryd.ntmps51
  go_wp2_with fail
  refine (HJ.out _).mono ?_
  rintro e w1 ⟨rfl, hb1⟩
  have P0 := hidI (HW.out w1 (by simpa using hb1))
  clear HJ HW hb1 hX hU c0 c1 c2
  have x0 := (blk P0.out.x).1 0
  have x1 := (blk P0.out.x).1 1
  have x2 := (blk P0.out.x).1 2
  have xf := (blk P0.out.x).2
  have zx := ltHeap P0.out.x
  simp only [List.getElem?_toArray, List.getElem?_cons_zero, List.getElem?_cons_succ] at x0 x1 x2
  have y0 := (blk P0.out.y).1 0
  have y1 := (blk P0.out.y).1 1
  have y2 := (blk P0.out.y).1 2
  simp only [List.getElem?_toArray, List.getElem?_cons_zero, List.getElem?_cons_succ] at y0 y1 y2
  repeat' ((fail_if_success (refine stop_at 3 ?_)); first | go_values | go_skip | go_guarded | go_step | go_upon | go_back | (simp only at *; go_simp) | (go_values <;> (try go_simp)) | (go_ite <;> go_prune <;> (try go_simp)) | (split <;> (first | (rename_i hx; exact (hx _ rfl).elim) | go_prune)))
  obtain ⟨w2, hw2⟩ : ∃ w2, w2 = ((w1.setCell ⟨w.heap.size, 0, none⟩ (.int .i64 jl)).setCell ⟨w.heap.size, 1, none⟩ (.int .i64 jh)).setCell ⟨w.heap.size, 2, none⟩ (.bool js) := ⟨_, rfl⟩
  rw [← hw2]
  have P2 : Hid (PutW w O A n l ag ⟨jl, jh, js⟩ ⟨ol, oh, os⟩ w2) := hidI (by rw [hw2]; exact ((P0.out.lo jl).hi jh).has js)
  clear x0 x1 x2 xf zx y0 y1 y2
  clear hw2 P0
  have x0 := (blk P2.out.x).1 0
  have x1 := (blk P2.out.x).1 1
  have x2 := (blk P2.out.x).1 2
  have xf := (blk P2.out.x).2
  have zx := ltHeap P2.out.x
  simp only [List.getElem?_toArray, List.getElem?_cons_zero, List.getElem?_cons_succ] at x0 x1 x2
  have y0 := (blk P2.out.y).1 0
  have y1 := (blk P2.out.y).1 1
  have y2 := (blk P2.out.y).1 2
  simp only [List.getElem?_toArray, List.getElem?_cons_zero, List.getElem?_cons_succ] at y0 y1 y2
  have aa := (blk P2.out.ag).1 0
  have af := (blk P2.out.ag).2
  simp only [List.getElem?_toArray, List.getElem?_cons_zero] at aa
  try simp only at x0 x1 x2 y0 y1 y2
  have hq : ∀ w, (binOp .eql 74 (.agg #[.int .i64 jl, .int .i64 jh, .bool js]) (.agg #[.int .i64 ol, .int .i64 oh, .bool os])).run Tryd.prog w = .ok (.bool (eqS ⟨jl, jh, js⟩ ⟨ol, oh, os⟩)) w := run_eqSpn _ _ _ _ _ _
  cases he : eqS ⟨jl, jh, js⟩ ⟨ol, oh, os⟩ with
  | true =>
    have HE := hidI he
    rw [he] at hq
    clear he
    go_wp2_with fail
    refine bodyPost_ret (results_none rfl _ _ _) rfl ⟨rfl, ?_, ?_, P2.out.kept⟩
    · rw [HP.out, if_pos HE.out, HS.out]; exact P2.out.row
    · rw [HC.out, HE.out]
      exact (Bool.or_false ag).symm ▸ P2.out.ag
  | false =>
    have HE := hidI he
    rw [he] at hq
    clear he
    repeat' ((fail_if_success (refine stop_at 5 ?_)); first | go_values | go_skip | go_guarded | go_step | go_upon | go_back | (simp only [Int.not_lt, Int.not_le] at *; go_simp) | (go_values <;> (try go_simp)) | (go_ite <;> go_prune <;> (try go_simp)) | (split <;> (first | (rename_i hx; exact (hx _ rfl).elim) | go_prune)))
    obtain ⟨w3, hw3⟩ : ∃ w3, w3 = w2.setCell ⟨A, 0, none⟩ (.bool true) := ⟨_, rfl⟩
    rw [← hw3]
    have P3 : Hid (PutW w O A n l true ⟨jl, jh, js⟩ ⟨ol, oh, os⟩ w3) := hidI (by rw [hw3]; exact P2.out.put)
    clear x0 x1 x2 xf zx y0 y1 y2 aa af
    clear hw3 P2 hq
    have x0 := (blk P3.out.x).1 0
    have x1 := (blk P3.out.x).1 1
    have x2 := (blk P3.out.x).1 2
    have xf := (blk P3.out.x).2
    have zx := ltHeap P3.out.x
    simp only [List.getElem?_toArray, List.getElem?_cons_zero, List.getElem?_cons_succ] at x0 x1 x2
    have y0 := (blk P3.out.y).1 0
    have y1 := (blk P3.out.y).1 1
    have y2 := (blk P3.out.y).1 2
    simp only [List.getElem?_toArray, List.getElem?_cons_zero, List.getElem?_cons_succ] at y0 y1 y2
    have hUU := (P3.out.kept.cell (p := ⟨T, 0, none⟩) zT (fun h => h.elim to ta)).trans HU.out
    try simp only at x0 x1 x2 y0 y1 y2
    have HP2 := hidI (show putSp turn l d s = setS l d (widS turn ⟨ol, oh, os⟩ ⟨jl, jh, js⟩) from by rw [HP.out, HE.out]; rfl)
    have HC2 := hidI (show (ag || chgS l d s) = true from by rw [HC.out, HE.out]; simp)
    clear HP HC HE HS
    by_cases h2 : 2 < turn
    · have ht2 : decide ((2 : Int) < turn) = true := by simp; omega
      have H2 := hidI h2
      clear h2
      cases os with
      | true =>
        by_cases hl : jl < ol
        · by_cases hh : oh < jh
          · have HL := hidI hl
            have HH := hidI hh
            repeat' ((fail_if_success (refine stop_at 10 ?_)); first | go_values | go_skip | go_guarded | go_step | go_upon | go_back | (simp only [Int.not_lt, Int.not_le] at *; go_simp) | (go_values <;> (try go_simp)) | (go_ite <;> go_prune <;> (try go_simp)) | (split <;> (first | (rename_i hx; exact (hx _ rfl).elim) | go_prune)))
            obtain ⟨w4, hw4⟩ : ∃ w4, w4 = (w3.setCell ⟨w.heap.size, 0, none⟩ (.int .i64 (-9223372036854775808))).setCell ⟨w.heap.size, 1, none⟩ (.int .i64 9223372036854775807) := ⟨_, rfl⟩
            rw [← hw4]
            have P4 : Hid (PutW w O A n l true ⟨minI, maxI, js⟩ ⟨ol, oh, true⟩ w4) := hidI (by rw [hw4]; exact ((P3.out.lo _).hi _))
            clear x0 x1 x2 xf zx y0 y1 y2 hUU
            clear hw4 P3 ht2 hl hh
            have x0 := (blk P4.out.x).1 0
            have x1 := (blk P4.out.x).1 1
            have x2 := (blk P4.out.x).1 2
            have xf := (blk P4.out.x).2
            have zx := ltHeap P4.out.x
            simp only [List.getElem?_toArray, List.getElem?_cons_zero, List.getElem?_cons_succ] at x0 x1 x2
            have hXX := (P4.out.kept.cell (p := ⟨X, 0, none⟩) zX (fun h => h.elim xo xa)).trans HX.out
            have o0 := P4.out.row.cell (i := d * 3) (by omega)
            have o1 := P4.out.row.cell (i := d * 3 + 1) (by omega)
            have o2 := P4.out.row.cell (i := d * 3 + 2) (by omega)
            have of0 := P4.out.row.frozen (d * 3)
            have of1 := P4.out.row.frozen (d * 3 + 1)
            have of2 := P4.out.row.frozen (d * 3 + 2)
            try simp only at x0 x1 x2
            go_wp2_with fail
            have hw : widS turn ⟨ol, oh, true⟩ ⟨jl, jh, js⟩ = ⟨minI, maxI, js⟩ := (widS_lo ⟨H2.out, rfl⟩).trans (Spn.ext' (if_pos (by have := HL.out; show jl < ol; omega)) (if_pos (by have := HH.out; show oh < jh; omega)) rfl)
            have hD := PutW.done (d := d) P4.out rfl
            rw [HP2.out, hw, HC2.out]
            exact bodyPost_end (results_none rfl _ _ _) rfl ⟨rfl, hD⟩
          · have HL := hidI hl
            have HH := hidI hh
            repeat' ((fail_if_success (refine stop_at 10 ?_)); first | go_values | go_skip | go_guarded | go_step | go_upon | go_back | (simp only [Int.not_lt, Int.not_le] at *; go_simp) | (go_values <;> (try go_simp)) | (go_ite <;> go_prune <;> (try go_simp)) | (split <;> (first | (rename_i hx; exact (hx _ rfl).elim) | go_prune)))
            obtain ⟨w4, hw4⟩ : ∃ w4, w4 = w3.setCell ⟨w.heap.size, 0, none⟩ (.int .i64 (-9223372036854775808)) := ⟨_, rfl⟩
            rw [← hw4]
            have P4 : Hid (PutW w O A n l true ⟨minI, jh, js⟩ ⟨ol, oh, true⟩ w4) := hidI (by rw [hw4]; exact (P3.out.lo _))
            clear x0 x1 x2 xf zx y0 y1 y2 hUU
            clear hw4 P3 ht2 hl hh
            have x0 := (blk P4.out.x).1 0
            have x1 := (blk P4.out.x).1 1
            have x2 := (blk P4.out.x).1 2
            have xf := (blk P4.out.x).2
            have zx := ltHeap P4.out.x
            simp only [List.getElem?_toArray, List.getElem?_cons_zero, List.getElem?_cons_succ] at x0 x1 x2
            have hXX := (P4.out.kept.cell (p := ⟨X, 0, none⟩) zX (fun h => h.elim xo xa)).trans HX.out
            have o0 := P4.out.row.cell (i := d * 3) (by omega)
            have o1 := P4.out.row.cell (i := d * 3 + 1) (by omega)
            have o2 := P4.out.row.cell (i := d * 3 + 2) (by omega)
            have of0 := P4.out.row.frozen (d * 3)
            have of1 := P4.out.row.frozen (d * 3 + 1)
            have of2 := P4.out.row.frozen (d * 3 + 2)
            try simp only at x0 x1 x2
            go_wp2_with fail
            have hw : widS turn ⟨ol, oh, true⟩ ⟨jl, jh, js⟩ = ⟨minI, jh, js⟩ := (widS_lo ⟨H2.out, rfl⟩).trans (Spn.ext' (if_pos (by have := HL.out; show jl < ol; omega)) (if_neg (by have := HH.out; show ¬ oh < jh; omega)) rfl)
            have hD := PutW.done (d := d) P4.out rfl
            rw [HP2.out, hw, HC2.out]
            exact bodyPost_end (results_none rfl _ _ _) rfl ⟨rfl, hD⟩

        · by_cases hh : oh < jh
          · have HL := hidI hl
            have HH := hidI hh
            repeat' ((fail_if_success (refine stop_at 10 ?_)); first | go_values | go_skip | go_guarded | go_step | go_upon | go_back | (simp only [Int.not_lt, Int.not_le] at *; go_simp) | (go_values <;> (try go_simp)) | (go_ite <;> go_prune <;> (try go_simp)) | (split <;> (first | (rename_i hx; exact (hx _ rfl).elim) | go_prune)))
            obtain ⟨w4, hw4⟩ : ∃ w4, w4 = (w3).setCell ⟨w.heap.size, 1, none⟩ (.int .i64 9223372036854775807) := ⟨_, rfl⟩
            rw [← hw4]
            have P4 : Hid (PutW w O A n l true ⟨jl, maxI, js⟩ ⟨ol, oh, true⟩ w4) := hidI (by rw [hw4]; exact (P3.out.hi _))
            clear x0 x1 x2 xf zx y0 y1 y2 hUU
            clear hw4 P3 ht2 hl hh
            have x0 := (blk P4.out.x).1 0
            have x1 := (blk P4.out.x).1 1
            have x2 := (blk P4.out.x).1 2
            have xf := (blk P4.out.x).2
            have zx := ltHeap P4.out.x
            simp only [List.getElem?_toArray, List.getElem?_cons_zero, List.getElem?_cons_succ] at x0 x1 x2
            have hXX := (P4.out.kept.cell (p := ⟨X, 0, none⟩) zX (fun h => h.elim xo xa)).trans HX.out
            have o0 := P4.out.row.cell (i := d * 3) (by omega)
            have o1 := P4.out.row.cell (i := d * 3 + 1) (by omega)
            have o2 := P4.out.row.cell (i := d * 3 + 2) (by omega)
            have of0 := P4.out.row.frozen (d * 3)
            have of1 := P4.out.row.frozen (d * 3 + 1)
            have of2 := P4.out.row.frozen (d * 3 + 2)
            try simp only at x0 x1 x2
            go_wp2_with fail
            have hw : widS turn ⟨ol, oh, true⟩ ⟨jl, jh, js⟩ = ⟨jl, maxI, js⟩ := (widS_lo ⟨H2.out, rfl⟩).trans (Spn.ext' (if_neg (by have := HL.out; show ¬ jl < ol; omega)) (if_pos (by have := HH.out; show oh < jh; omega)) rfl)
            have hD := PutW.done (d := d) P4.out rfl
            rw [HP2.out, hw, HC2.out]
            exact bodyPost_end (results_none rfl _ _ _) rfl ⟨rfl, hD⟩
          · have HL := hidI hl
            have HH := hidI hh
            repeat' ((fail_if_success (refine stop_at 10 ?_)); first | go_values | go_skip | go_guarded | go_step | go_upon | go_back | (simp only [Int.not_lt, Int.not_le] at *; go_simp) | (go_values <;> (try go_simp)) | (go_ite <;> go_prune <;> (try go_simp)) | (split <;> (first | (rename_i hx; exact (hx _ rfl).elim) | go_prune)))
            obtain ⟨w4, hw4⟩ : ∃ w4, w4 = w3 := ⟨_, rfl⟩
            rw [← hw4]
            have P4 : Hid (PutW w O A n l true ⟨jl, jh, js⟩ ⟨ol, oh, true⟩ w4) := hidI (by rw [hw4]; exact P3.out)
            clear x0 x1 x2 xf zx y0 y1 y2 hUU
            clear hw4 P3 ht2 hl hh
            have x0 := (blk P4.out.x).1 0
            have x1 := (blk P4.out.x).1 1
            have x2 := (blk P4.out.x).1 2
            have xf := (blk P4.out.x).2
            have zx := ltHeap P4.out.x
            simp only [List.getElem?_toArray, List.getElem?_cons_zero, List.getElem?_cons_succ] at x0 x1 x2
            have hXX := (P4.out.kept.cell (p := ⟨X, 0, none⟩) zX (fun h => h.elim xo xa)).trans HX.out
            have o0 := P4.out.row.cell (i := d * 3) (by omega)
            have o1 := P4.out.row.cell (i := d * 3 + 1) (by omega)
            have o2 := P4.out.row.cell (i := d * 3 + 2) (by omega)
            have of0 := P4.out.row.frozen (d * 3)
            have of1 := P4.out.row.frozen (d * 3 + 1)
            have of2 := P4.out.row.frozen (d * 3 + 2)
            try simp only at x0 x1 x2
            go_wp2_with fail
            have hw : widS turn ⟨ol, oh, true⟩ ⟨jl, jh, js⟩ = ⟨jl, jh, js⟩ := (widS_lo ⟨H2.out, rfl⟩).trans (Spn.ext' (if_neg (by have := HL.out; show ¬ jl < ol; omega)) (if_neg (by have := HH.out; show ¬ oh < jh; omega)) rfl)
            have hD := PutW.done (d := d) P4.out rfl
            rw [HP2.out, hw, HC2.out]
            exact bodyPost_end (results_none rfl _ _ _) rfl ⟨rfl, hD⟩

      | false =>
        repeat' ((fail_if_success (refine stop_at 10 ?_)); first | go_values | go_skip | go_guarded | go_step | go_upon | go_back | (simp only [Int.not_lt, Int.not_le] at *; go_simp) | (go_values <;> (try go_simp)) | (go_ite <;> go_prune <;> (try go_simp)) | (split <;> (first | (rename_i hx; exact (hx _ rfl).elim) | go_prune)))
        obtain ⟨w4, hw4⟩ : ∃ w4, w4 = w3 := ⟨_, rfl⟩
        rw [← hw4]
        have P4 : Hid (PutW w O A n l true ⟨jl, jh, js⟩ ⟨ol, oh, false⟩ w4) := hidI (by rw [hw4]; exact P3.out)
        clear x0 x1 x2 xf zx y0 y1 y2 hUU
        clear hw4 P3 ht2
        have x0 := (blk P4.out.x).1 0
        have x1 := (blk P4.out.x).1 1
        have x2 := (blk P4.out.x).1 2
        have xf := (blk P4.out.x).2
        have zx := ltHeap P4.out.x
        simp only [List.getElem?_toArray, List.getElem?_cons_zero, List.getElem?_cons_succ] at x0 x1 x2
        have hXX := (P4.out.kept.cell (p := ⟨X, 0, none⟩) zX (fun h => h.elim xo xa)).trans HX.out
        have o0 := P4.out.row.cell (i := d * 3) (by omega)
        have o1 := P4.out.row.cell (i := d * 3 + 1) (by omega)
        have o2 := P4.out.row.cell (i := d * 3 + 2) (by omega)
        have of0 := P4.out.row.frozen (d * 3)
        have of1 := P4.out.row.frozen (d * 3 + 1)
        have of2 := P4.out.row.frozen (d * 3 + 2)
        try simp only at x0 x1 x2
        go_wp2_with fail
        have hw : widS turn ⟨ol, oh, false⟩ ⟨jl, jh, js⟩ = ⟨jl, jh, js⟩ := if_neg (fun h => by cases h.2)
        have hD := PutW.done (d := d) P4.out rfl
        rw [HP2.out, hw, HC2.out]
        exact bodyPost_end (results_none rfl _ _ _) rfl ⟨rfl, hD⟩

    · have ht2 : decide ((2 : Int) < turn) = false := by simp; omega
      have H2 := hidI h2
      clear h2
      repeat' ((fail_if_success (refine stop_at 10 ?_)); first | go_values | go_skip | go_guarded | go_step | go_upon | go_back | (simp only [Int.not_lt, Int.not_le] at *; go_simp) | (go_values <;> (try go_simp)) | (go_ite <;> go_prune <;> (try go_simp)) | (split <;> (first | (rename_i hx; exact (hx _ rfl).elim) | go_prune)))
      obtain ⟨w4, hw4⟩ : ∃ w4, w4 = w3 := ⟨_, rfl⟩
      rw [← hw4]
      have P4 : Hid (PutW w O A n l true ⟨jl, jh, js⟩ ⟨ol, oh, os⟩ w4) := hidI (by rw [hw4]; exact P3.out)
      clear x0 x1 x2 xf zx y0 y1 y2 hUU
      clear hw4 P3 ht2
      have x0 := (blk P4.out.x).1 0
      have x1 := (blk P4.out.x).1 1
      have x2 := (blk P4.out.x).1 2
      have xf := (blk P4.out.x).2
      have zx := ltHeap P4.out.x
      simp only [List.getElem?_toArray, List.getElem?_cons_zero, List.getElem?_cons_succ] at x0 x1 x2
      have hXX := (P4.out.kept.cell (p := ⟨X, 0, none⟩) zX (fun h => h.elim xo xa)).trans HX.out
      have o0 := P4.out.row.cell (i := d * 3) (by omega)
      have o1 := P4.out.row.cell (i := d * 3 + 1) (by omega)
      have o2 := P4.out.row.cell (i := d * 3 + 2) (by omega)
      have of0 := P4.out.row.frozen (d * 3)
      have of1 := P4.out.row.frozen (d * 3 + 1)
      have of2 := P4.out.row.frozen (d * 3 + 2)
      try simp only at x0 x1 x2
      go_wp2_with fail
      have hw : widS turn ⟨ol, oh, os⟩ ⟨jl, jh, js⟩ = ⟨jl, jh, js⟩ := if_neg (fun h => H2.out h.1)
      have hD := PutW.done (d := d) P4.out rfl
      rw [HP2.out, hw, HC2.out]
      exact bodyPost_end (results_none rfl _ _ _) rfl ⟨rfl, hD⟩

end Go.Proofs.YtdjamkinijhjoaaDoor
