/-
  The contracts of span.spans' closures: what a value is between, and put.
  What span.spans needs: the numbers of a function, the world within.
-/
import Derived.WalkKit
import Derived.WalkSpells
import Derived.WalkLawsBesides
import Derived.Test.YtdjamkinijhjoaaDoorJSsaA
import Derived.Test.YtdjamkinijhjoaaDoorSpnG
import Derived.Test.YtdjamkinijhjoaaDoorJEachV
import Derived.Test.YtdjamkinijhjoaaDoorJSpnR
namespace Go.Proofs.YtdjamkinijhjoaaDoor
open Go.RowKit

def spF (l : Nat → Spn) (j : Nat) : Value := if j % 3 = 0 then .int .i64 (l (j / 3)).lo else if j % 3 = 1 then .int .i64 (l (j / 3)).hi else .bool (l (j / 3)).has
theorem spF_0 (l : Nat → Spn) (r : Nat) : spF l (r * 3) = .int .i64 (l r).lo := by
 have e : r * 3 / 3 = r := by omega
 unfold spF
 rw [if_pos (by omega), e]
theorem spF_1 (l : Nat → Spn) (r : Nat) : spF l (r * 3 + 1) = .int .i64 (l r).hi := by
 have e : (r * 3 + 1) / 3 = r := by omega
 unfold spF
 rw [if_neg (by omega), if_pos (by omega), e]
theorem spF_2 (l : Nat → Spn) (r : Nat) : spF l (r * 3 + 2) = .bool (l r).has := by
 have e : (r * 3 + 2) / 3 = r := by omega
 unfold spF
 rw [if_neg (by omega), if_neg (by omega), e]
theorem spRow_set {l : Nat → Spn} {d : Nat} (s : Spn) {w : World} {B n : Nat} {t : TypeId} (hR : w.rowIs B t n (spF l)) :
  (((w.setCell ⟨B, d * 3, none⟩ (.int .i64 s.lo)).setCell ⟨B, d * 3 + 1, none⟩ (.int .i64 s.hi)).setCell ⟨B, d * 3 + 2, none⟩ (.bool s.has)).rowIs B t n (spF (setS l d s)) := by
 refine (((hR.set (d * 3) (.int .i64 s.lo)).set (d * 3 + 1) (.int .i64 s.hi)).set (d * 3 + 2) (.bool s.has)).congr fun j _ => ?_
 by_cases e : j / 3 = d
 ·have hj : j = d * 3 ∨ j = d * 3 + 1 ∨ j = d * 3 + 2 := by omega
  rcases hj with rfl | rfl | rfl
  ·rw [if_neg (by omega), if_neg (by omega), if_pos rfl, spF_0, setS_self]
  ·rw [if_neg (by omega), if_pos rfl, spF_1, setS_self]
  ·rw [if_pos rfl, spF_2, setS_self]
 ·rw [if_neg (by omega), if_neg (by omega), if_neg (by omega)]
  unfold spF
  rw [setS_other e]
theorem run_eqSpn (a b a' b' : Int) (c c' : Bool) (w : World) :
  (binOp .eql 74 (.agg #[.int .i64 a, .int .i64 b, .bool c]) (.agg #[.int .i64 a', .int .i64 b', .bool c'])).run Tryd.prog w = .ok (.bool (a == a' && b == b' && c == c')) w := by
 by_cases h1 : a = a' <;> by_cases h2 : b = b' <;> cases c <;> cases c' <;> simp [go_sem, h1, h2]

set_option maxRecDepth 100000 in
set_option maxHeartbeats 1000000 in
theorem spVal_any (X O n : Nat) (l : Nat → Spn) (r : Bool) (m : Int) (w : World) (_hn : n ≤ 1000) (hX : w.cell? ⟨X, 0, none⟩ = some (.slice (some ⟨O, 0, none⟩) n n)) (hT : w.rowIs O 74 (n * 3) (spF l)) (hv : r = true → 0 ≤ m ∧ m < n) :
  Calls Tryd.prog 49 #[.agg #[.bool r, .int .i64 m], .pointer (some ⟨X, 0, none⟩)] w fun e w' => e = .returned (.agg (spC (vlS l (r, m)))) ∧ Below w.heap.size w w' := by
 have hzX := lt_of_cell hX
 cases r with
 | false =>
  rw [show vlS l (false, m) = ofS m m from rfl]
  clear hT hv
  go_enter Tryd.func49, Tryd.ntmps49
  go_wp2_with (go_at_call 50; refine (spanJust_any _ _).mono ?_; rintro e w1 ⟨rfl, rfl⟩)
  refine bodyPost_ret (v := .agg (spC (ofS m m))) ?_ rfl ⟨rfl, ?_⟩
  ·simp [results, Tryd.results49, go_sem, spC, ofS]
  ·repeat (first | (with_reducible first | exact bR _ _ | exact bH ‹_› | refine bD ?_ | refine bN ?_ _ | refine bS ?_ ?_ _ | refine bA ?_ ?_ _ | refine bT hb3 ?_ ?_ | refine bT hb5 ?_ ?_ | refine bT hb4 ?_ ?_) | omega | (simp; omega) | simp)
 | true =>
  obtain ⟨h1, h2⟩ := hv rfl
  obtain ⟨q, rfl⟩ : ∃ q : Nat, m = q := ⟨m.toNat, by omega⟩
  have hq : q < n := by omega
  have c0 := hT.cell (i := q * 3) (by omega)
  have c1 := hT.cell (i := q * 3 + 1) (by omega)
  have c2 := hT.cell (i := q * 3 + 2) (by omega)
  have hO := hT.lt
  rw [spF_0] at c0
  rw [spF_1] at c1
  rw [spF_2] at c2
  rw [show vlS l (true, (q : Int)) = l q from rfl]
  clear hT hv h1 h2
  obtain ⟨⟨a, b, s⟩, hs⟩ : ∃ s, s = l q := ⟨_, rfl⟩
  rw [← hs] at c0 c1 c2 ⊢
  clear hs
  simp only at c0 c1 c2
  go_enter Tryd.func49, Tryd.ntmps49
  go_wp2_with fail
  refine bodyPost_ret (v := .agg (spC ⟨a, b, s⟩)) ?_ rfl ⟨rfl, ?_⟩
  ·simp [results, Tryd.results49, go_sem, spC]
  ·repeat (first | (with_reducible first | exact bR _ _ | exact bH ‹_› | refine bD ?_ | refine bN ?_ _ | refine bS ?_ ?_ _ | refine bA ?_ ?_ _ | refine bT hb3 ?_ ?_ | refine bT hb5 ?_ ?_ | refine bT hb4 ?_ ?_) | omega | (simp; omega) | simp)

theorem stop_at {P : Program} {ops : Array Oper} {b : Bool} {Q : Exit → Act → World → Prop} {a : Act} {w : World} (n : Nat) (h : Code.wp P (.region n ops b) Q a w) : Code.wp P (.region n ops b) Q a w := h

structure PutW (w : World) (O A n : Nat) (l : Nat → Spn) (ag : Bool) (x y : Spn) (w' : World) : Prop where
 kept : Kept (fun k => k = O ∨ k = A) w w'
 x : w'.heap[w.heap.size]? = some (.cells #[.int .i64 x.lo, .int .i64 x.hi, .bool x.has] 74 (0, 0))
 y : w'.heap[w.heap.size + 1]? = some (.cells #[.int .i64 y.lo, .int .i64 y.hi, .bool y.has] 74 (0, 0))
 row : w'.rowIs O 74 (n * 3) (spF l)
 ag : w'.heap[A]? = some (.cells #[.bool ag] 4 (0, 0))
 o : O < w.heap.size
 a : A < w.heap.size
 oa : O ≠ A
theorem kept_high {S : Blks} {w w' : World} (h : Kept S w w') {p : Addr} (hp : w.heap.size ≤ p.block) (v : Value) : Kept S w (w'.setCell p v) :=
 ⟨h.os, h.tape, h.output, by rw [Go.Deep.nblk_setCell]; exact h.size, fun k hk hn => (Go.Deep.blk_setCell_other w' p v k (fun e => by omega)).trans (h.block k hk hn)⟩
theorem PutW.lo {w w' : World} {O A n : Nat} {l : Nat → Spn} {ag : Bool} {x y : Spn} (h : PutW w O A n l ag x y w') (v : Int) : PutW w O A n l ag ⟨v, x.hi, x.has⟩ y (w'.setCell ⟨w.heap.size, 0, none⟩ (.int .i64 v)) :=
 ⟨kept_high h.kept (Nat.le_refl _) _, by rw [row_set h.x]; rfl, (Go.Deep.blk_setCell_other _ _ _ _ (by show w.heap.size + 1 ≠ w.heap.size; omega)).trans h.y,
  h.row.of_block (Go.Deep.blk_setCell_other _ _ _ _ (by show O ≠ w.heap.size; have := h.o; omega)), (Go.Deep.blk_setCell_other _ _ _ _ (by show A ≠ w.heap.size; have := h.a; omega)).trans h.ag, h.o, h.a, h.oa⟩
theorem PutW.hi {w w' : World} {O A n : Nat} {l : Nat → Spn} {ag : Bool} {x y : Spn} (h : PutW w O A n l ag x y w') (v : Int) : PutW w O A n l ag ⟨x.lo, v, x.has⟩ y (w'.setCell ⟨w.heap.size, 1, none⟩ (.int .i64 v)) :=
 ⟨kept_high h.kept (Nat.le_refl _) _, by rw [row_set h.x]; rfl, (Go.Deep.blk_setCell_other _ _ _ _ (by show w.heap.size + 1 ≠ w.heap.size; omega)).trans h.y,
  h.row.of_block (Go.Deep.blk_setCell_other _ _ _ _ (by show O ≠ w.heap.size; have := h.o; omega)), (Go.Deep.blk_setCell_other _ _ _ _ (by show A ≠ w.heap.size; have := h.a; omega)).trans h.ag, h.o, h.a, h.oa⟩
theorem PutW.has {w w' : World} {O A n : Nat} {l : Nat → Spn} {ag : Bool} {x y : Spn} (h : PutW w O A n l ag x y w') (v : Bool) : PutW w O A n l ag ⟨x.lo, x.hi, v⟩ y (w'.setCell ⟨w.heap.size, 2, none⟩ (.bool v)) :=
 ⟨kept_high h.kept (Nat.le_refl _) _, by rw [row_set h.x]; rfl, (Go.Deep.blk_setCell_other _ _ _ _ (by show w.heap.size + 1 ≠ w.heap.size; omega)).trans h.y,
  h.row.of_block (Go.Deep.blk_setCell_other _ _ _ _ (by show O ≠ w.heap.size; have := h.o; omega)), (Go.Deep.blk_setCell_other _ _ _ _ (by show A ≠ w.heap.size; have := h.a; omega)).trans h.ag, h.o, h.a, h.oa⟩
theorem PutW.put {w w' : World} {O A n : Nat} {l : Nat → Spn} {ag : Bool} {x y : Spn} (h : PutW w O A n l ag x y w') : PutW w O A n l true x y (w'.setCell ⟨A, 0, none⟩ (.bool true)) :=
 ⟨h.kept.setCell (.inr rfl) _, (Go.Deep.blk_setCell_other _ _ _ _ (by show w.heap.size ≠ A; have := h.a; omega)).trans h.x, (Go.Deep.blk_setCell_other _ _ _ _ (by show w.heap.size + 1 ≠ A; have := h.a; omega)).trans h.y,
  h.row.of_block (Go.Deep.blk_setCell_other _ _ _ _ h.oa), by rw [row_set h.ag]; rfl, h.o, h.a, h.oa⟩
theorem PutW.start {w w1 : World} {O A n : Nat} {l : Nat → Spn} {ag : Bool} {x y : Spn} (hT : w.rowIs O 74 (n * 3) (spF l)) (hA : w.heap[A]? = some (.cells #[.bool ag] 4 (0, 0))) (oa : O ≠ A)
  (hb : Below (w.heap.size + 1 + 1) ((w.alloc (.cells #[.int .i64 x.lo, .int .i64 x.hi, .bool x.has] 74)).alloc (.cells #[.int .i64 y.lo, .int .i64 y.hi, .bool y.has] 74)) w1) : PutW w O A n l ag x y w1 := by
 obtain ⟨W, hW⟩ : ∃ W, W = (w.alloc (.cells #[.int .i64 x.lo, .int .i64 x.hi, .bool x.has] 74)).alloc (.cells #[.int .i64 y.lo, .int .i64 y.hi, .bool y.has] 74) := ⟨_, rfl⟩
 rw [← hW] at hb
 have h0 : Below w.heap.size w W := by rw [hW]; repeat (first | (with_reducible first | exact bR _ _ | exact bH ‹_› | refine bD ?_ | refine bN ?_ _ | refine bS ?_ ?_ _ | refine bA ?_ ?_ _ | refine bT hb3 ?_ ?_ | refine bT hb5 ?_ ?_ | refine bT hb4 ?_ ?_) | omega | (simp; omega) | simp)
 have h1 := h0.trans (hb.mono (by omega))
 have zA := ltHeap hA
 exact ⟨Kept.of_below h1, (hb.block w.heap.size (by omega)).trans (by rw [hW]; exact heap_step (heap_here w _)), (hb.block (w.heap.size + 1) (by omega)).trans (by rw [hW]; exact heap_at (by simp)),
  hT.of_block (h1.block O hT.lt), (h1.block A zA).trans hA, hT.lt, zA, oa⟩
theorem PutW.done {w w' : World} {O A n d : Nat} {l : Nat → Spn} {ag : Bool} {x y : Spn} (h : PutW w O A n l ag x y w') {s : Spn} (hs : s = x) :
  (((w'.setCell ⟨O, d * 3, none⟩ (.int .i64 s.lo)).setCell ⟨O, d * 3 + 1, none⟩ (.int .i64 s.hi)).setCell ⟨O, d * 3 + 2, none⟩ (.bool s.has)).rowIs O 74 (n * 3) (spF (setS l d x)) ∧
  (((w'.setCell ⟨O, d * 3, none⟩ (.int .i64 s.lo)).setCell ⟨O, d * 3 + 1, none⟩ (.int .i64 s.hi)).setCell ⟨O, d * 3 + 2, none⟩ (.bool s.has)).heap[A]? = some (.cells #[.bool ag] 4 (0, 0)) ∧
  Kept (fun k => k = O ∨ k = A) w (((w'.setCell ⟨O, d * 3, none⟩ (.int .i64 s.lo)).setCell ⟨O, d * 3 + 1, none⟩ (.int .i64 s.hi)).setCell ⟨O, d * 3 + 2, none⟩ (.bool s.has)) := by
 subst hs
 have hne : A ≠ O := fun e => h.oa e.symm
 exact ⟨spRow_set s h.row, (Go.Deep.blk_setCell_other _ _ _ _ hne).trans ((Go.Deep.blk_setCell_other _ _ _ _ hne).trans ((Go.Deep.blk_setCell_other _ _ _ _ hne).trans h.ag)),
  ((h.kept.setCell (.inl rfl) _).setCell (.inl rfl) _).setCell (.inl rfl) _⟩
theorem widS_lo {turn : Nat} {old s : Spn} (h : 2 < turn ∧ old.has = true) : widS turn old s = ⟨if s.lo < old.lo then minI else s.lo, if old.hi < s.hi then maxI else s.hi, s.has⟩ := if_pos h

set_option maxRecDepth 100000 in
set_option maxHeartbeats 4000000 in
theorem put_any (X O A T n d turn : Nat) (l : Nat → Spn) (s : Spn) (ag : Bool) (w : World) (_hn : n ≤ 1000) (hd : d < n) (ht : turn < 1000000000) (hX : w.cell? ⟨X, 0, none⟩ = some (.slice (some ⟨O, 0, none⟩) n n)) (hT : w.rowIs O 74 (n * 3) (spF l)) (hA : w.heap[A]? = some (.cells #[.bool ag] 4 (0, 0))) (hU : w.cell? ⟨T, 0, none⟩ = some (.int .i64 turn))
  (xo : X ≠ O) (xa : X ≠ A) (oa : O ≠ A) (to : T ≠ O) (ta : T ≠ A) :
  Calls Tryd.prog 51 #[.int .i64 d, .agg #[.int .i64 s.lo, .int .i64 s.hi, .bool s.has], .pointer (some ⟨X, 0, none⟩), .pointer (some ⟨A, 0, none⟩), .pointer (some ⟨T, 0, none⟩)] w fun e w' => e = .returned (.tuple #[]) ∧ w'.rowIs O 74 (n * 3) (spF (putSp turn l d s)) ∧ w'.heap[A]? = some (.cells #[.bool (ag || chgS l d s)] 4 (0, 0)) ∧ Kept (fun k => k = O ∨ k = A) w w' := by
 have zO := hT.lt
 have c0 := hT.cell (i := d * 3) (by omega)
 have c1 := hT.cell (i := d * 3 + 1) (by omega)
 have c2 := hT.cell (i := d * 3 + 2) (by omega)
 rw [spF_0] at c0
 rw [spF_1] at c1
 rw [spF_2] at c2
 have zX := lt_of_cell hX
 have zA := ltHeap hA
 have zT := lt_of_cell hU
 have HX := hidI hX
 have HU := hidI hU
 have HJ := hidI (spanJoin_any (l d) s)
 have HP := hidI (show putSp turn l d s = setS l d (if eqS (joinS (l d) s) (l d) = true then l d else widS turn (l d) (joinS (l d) s)) from rfl)
 have HC := hidI (show chgS l d s = !eqS (joinS (l d) s) (l d) from rfl)
 have HS := hidI (show setS l d (l d) = l from setS_same)
 obtain ⟨⟨ol, oh, os⟩, ho⟩ : ∃ x, x = l d := ⟨_, rfl⟩
 have HW := hidI (fun w1 => PutW.start (w := w) (w1 := w1) (x := s) (y := ⟨ol, oh, os⟩) hT hA oa)
 rw [← ho] at c0 c1 c2 HJ HP HC HS
 clear ho hT hA
 obtain ⟨⟨jl, jh, js⟩, hj⟩ : ∃ x, x = joinS ⟨ol, oh, os⟩ s := ⟨_, rfl⟩
 rw [← hj] at HJ HP HC
 clear hj
 simp only [spC] at HJ
 simp only at c0 c1 c2 HW
 go_enter Tryd.func51, Tryd.ntmps51
 go_wp2_with fail
 refine (HJ.out _).mono ?_
 rintro e w1 ⟨rfl, hb1⟩
 have P0 := hidI (HW.out w1 (by simpa using hb1))
 clear HJ HW hb1 hX hU c0 c1 c2
 have x0 := (blk P0.out.x).1 0
 have x1 := (blk P0.out.x).1 1
 have x2 := (blk P0.out.x).1 2
 have xf := (blk P0.out.x).2
 have zx := ltHeap P0.out.x
 simp only [List.getElem?_toArray, List.getElem?_cons_zero, List.getElem?_cons_succ] at x0 x1 x2
 have y0 := (blk P0.out.y).1 0
 have y1 := (blk P0.out.y).1 1
 have y2 := (blk P0.out.y).1 2
 simp only [List.getElem?_toArray, List.getElem?_cons_zero, List.getElem?_cons_succ] at y0 y1 y2
 repeat' ((fail_if_success (refine stop_at 3 ?_)); first | go_values | go_skip | go_guarded | go_step | go_upon | go_back | (simp only at *; go_simp) | (go_values <;> (try go_simp)) | (go_ite <;> go_prune <;> (try go_simp)) | (split <;> (first | (rename_i hx; exact (hx _ rfl).elim) | go_prune)))
 obtain ⟨w2, hw2⟩ : ∃ w2, w2 = ((w1.setCell ⟨w.heap.size, 0, none⟩ (.int .i64 jl)).setCell ⟨w.heap.size, 1, none⟩ (.int .i64 jh)).setCell ⟨w.heap.size, 2, none⟩ (.bool js) := ⟨_, rfl⟩
 rw [← hw2]
 have P2 : Hid (PutW w O A n l ag ⟨jl, jh, js⟩ ⟨ol, oh, os⟩ w2) := hidI (by rw [hw2]; exact ((P0.out.lo jl).hi jh).has js)
 clear x0 x1 x2 xf zx y0 y1 y2
 clear hw2 P0
 have x0 := (blk P2.out.x).1 0
 have x1 := (blk P2.out.x).1 1
 have x2 := (blk P2.out.x).1 2
 have xf := (blk P2.out.x).2
 have zx := ltHeap P2.out.x
 simp only [List.getElem?_toArray, List.getElem?_cons_zero, List.getElem?_cons_succ] at x0 x1 x2
 have y0 := (blk P2.out.y).1 0
 have y1 := (blk P2.out.y).1 1
 have y2 := (blk P2.out.y).1 2
 simp only [List.getElem?_toArray, List.getElem?_cons_zero, List.getElem?_cons_succ] at y0 y1 y2
 have aa := (blk P2.out.ag).1 0
 have af := (blk P2.out.ag).2
 simp only [List.getElem?_toArray, List.getElem?_cons_zero] at aa
 try simp only at x0 x1 x2 y0 y1 y2
 have hq : ∀ w, (binOp .eql 74 (.agg #[.int .i64 jl, .int .i64 jh, .bool js]) (.agg #[.int .i64 ol, .int .i64 oh, .bool os])).run Tryd.prog w = .ok (.bool (eqS ⟨jl, jh, js⟩ ⟨ol, oh, os⟩)) w := run_eqSpn _ _ _ _ _ _
 cases he : eqS ⟨jl, jh, js⟩ ⟨ol, oh, os⟩ with
 | true =>
  have HE := hidI he
  rw [he] at hq
  clear he
  go_wp2_with fail
  refine bodyPost_ret (results_none rfl _ _ _) rfl ⟨rfl, ?_, ?_, P2.out.kept⟩
  ·rw [HP.out, if_pos HE.out, HS.out]; exact P2.out.row
  ·rw [HC.out, HE.out]
   exact (Bool.or_false ag).symm ▸ P2.out.ag
 | false =>
  have HE := hidI he
  rw [he] at hq
  clear he
  repeat' ((fail_if_success (refine stop_at 5 ?_)); first | go_values | go_skip | go_guarded | go_step | go_upon | go_back | (simp only [Int.not_lt, Int.not_le] at *; go_simp) | (go_values <;> (try go_simp)) | (go_ite <;> go_prune <;> (try go_simp)) | (split <;> (first | (rename_i hx; exact (hx _ rfl).elim) | go_prune)))
  obtain ⟨w3, hw3⟩ : ∃ w3, w3 = w2.setCell ⟨A, 0, none⟩ (.bool true) := ⟨_, rfl⟩
  rw [← hw3]
  have P3 : Hid (PutW w O A n l true ⟨jl, jh, js⟩ ⟨ol, oh, os⟩ w3) := hidI (by rw [hw3]; exact P2.out.put)
  clear x0 x1 x2 xf zx y0 y1 y2 aa af
  clear hw3 P2 hq
  have x0 := (blk P3.out.x).1 0
  have x1 := (blk P3.out.x).1 1
  have x2 := (blk P3.out.x).1 2
  have xf := (blk P3.out.x).2
  have zx := ltHeap P3.out.x
  simp only [List.getElem?_toArray, List.getElem?_cons_zero, List.getElem?_cons_succ] at x0 x1 x2
  have y0 := (blk P3.out.y).1 0
  have y1 := (blk P3.out.y).1 1
  have y2 := (blk P3.out.y).1 2
  simp only [List.getElem?_toArray, List.getElem?_cons_zero, List.getElem?_cons_succ] at y0 y1 y2
  have hUU := (P3.out.kept.cell (p := ⟨T, 0, none⟩) zT (fun h => h.elim to ta)).trans HU.out
  try simp only at x0 x1 x2 y0 y1 y2
  have HP2 := hidI (show putSp turn l d s = setS l d (widS turn ⟨ol, oh, os⟩ ⟨jl, jh, js⟩) from by rw [HP.out, HE.out]; rfl)
  have HC2 := hidI (show (ag || chgS l d s) = true from by rw [HC.out, HE.out]; simp)
  clear HP HC HE HS
  by_cases h2 : 2 < turn
  ·have ht2 : decide ((2 : Int) < turn) = true := by simp; omega
   have H2 := hidI h2
   clear h2
   cases os with
   | true =>
    by_cases hl : jl < ol
    ·by_cases hh : oh < jh
     ·have HL := hidI hl
      have HH := hidI hh
      repeat' ((fail_if_success (refine stop_at 10 ?_)); first | go_values | go_skip | go_guarded | go_step | go_upon | go_back | (simp only [Int.not_lt, Int.not_le] at *; go_simp) | (go_values <;> (try go_simp)) | (go_ite <;> go_prune <;> (try go_simp)) | (split <;> (first | (rename_i hx; exact (hx _ rfl).elim) | go_prune)))
      obtain ⟨w4, hw4⟩ : ∃ w4, w4 = (w3.setCell ⟨w.heap.size, 0, none⟩ (.int .i64 (-9223372036854775808))).setCell ⟨w.heap.size, 1, none⟩ (.int .i64 9223372036854775807) := ⟨_, rfl⟩
      rw [← hw4]
      have P4 : Hid (PutW w O A n l true ⟨minI, maxI, js⟩ ⟨ol, oh, true⟩ w4) := hidI (by rw [hw4]; exact ((P3.out.lo _).hi _))
      clear x0 x1 x2 xf zx y0 y1 y2 hUU
      clear hw4 P3 ht2 hl hh
      have x0 := (blk P4.out.x).1 0
      have x1 := (blk P4.out.x).1 1
      have x2 := (blk P4.out.x).1 2
      have xf := (blk P4.out.x).2
      have zx := ltHeap P4.out.x
      simp only [List.getElem?_toArray, List.getElem?_cons_zero, List.getElem?_cons_succ] at x0 x1 x2
      have hXX := (P4.out.kept.cell (p := ⟨X, 0, none⟩) zX (fun h => h.elim xo xa)).trans HX.out
      have o0 := P4.out.row.cell (i := d * 3) (by omega)
      have o1 := P4.out.row.cell (i := d * 3 + 1) (by omega)
      have o2 := P4.out.row.cell (i := d * 3 + 2) (by omega)
      have of0 := P4.out.row.frozen (d * 3)
      have of1 := P4.out.row.frozen (d * 3 + 1)
      have of2 := P4.out.row.frozen (d * 3 + 2)
      try simp only at x0 x1 x2
      go_wp2_with fail
      have hw : widS turn ⟨ol, oh, true⟩ ⟨jl, jh, js⟩ = ⟨minI, maxI, js⟩ := (widS_lo ⟨H2.out, rfl⟩).trans (Spn.ext' (if_pos (by have := HL.out; show jl < ol; omega)) (if_pos (by have := HH.out; show oh < jh; omega)) rfl)
      have hD := PutW.done (d := d) P4.out rfl
      rw [HP2.out, hw, HC2.out]
      exact bodyPost_end (results_none rfl _ _ _) rfl ⟨rfl, hD⟩
     ·have HL := hidI hl
      have HH := hidI hh
      repeat' ((fail_if_success (refine stop_at 10 ?_)); first | go_values | go_skip | go_guarded | go_step | go_upon | go_back | (simp only [Int.not_lt, Int.not_le] at *; go_simp) | (go_values <;> (try go_simp)) | (go_ite <;> go_prune <;> (try go_simp)) | (split <;> (first | (rename_i hx; exact (hx _ rfl).elim) | go_prune)))
      obtain ⟨w4, hw4⟩ : ∃ w4, w4 = w3.setCell ⟨w.heap.size, 0, none⟩ (.int .i64 (-9223372036854775808)) := ⟨_, rfl⟩
      rw [← hw4]
      have P4 : Hid (PutW w O A n l true ⟨minI, jh, js⟩ ⟨ol, oh, true⟩ w4) := hidI (by rw [hw4]; exact (P3.out.lo _))
      clear x0 x1 x2 xf zx y0 y1 y2 hUU
      clear hw4 P3 ht2 hl hh
      have x0 := (blk P4.out.x).1 0
      have x1 := (blk P4.out.x).1 1
      have x2 := (blk P4.out.x).1 2
      have xf := (blk P4.out.x).2
      have zx := ltHeap P4.out.x
      simp only [List.getElem?_toArray, List.getElem?_cons_zero, List.getElem?_cons_succ] at x0 x1 x2
      have hXX := (P4.out.kept.cell (p := ⟨X, 0, none⟩) zX (fun h => h.elim xo xa)).trans HX.out
      have o0 := P4.out.row.cell (i := d * 3) (by omega)
      have o1 := P4.out.row.cell (i := d * 3 + 1) (by omega)
      have o2 := P4.out.row.cell (i := d * 3 + 2) (by omega)
      have of0 := P4.out.row.frozen (d * 3)
      have of1 := P4.out.row.frozen (d * 3 + 1)
      have of2 := P4.out.row.frozen (d * 3 + 2)
      try simp only at x0 x1 x2
      go_wp2_with fail
      have hw : widS turn ⟨ol, oh, true⟩ ⟨jl, jh, js⟩ = ⟨minI, jh, js⟩ := (widS_lo ⟨H2.out, rfl⟩).trans (Spn.ext' (if_pos (by have := HL.out; show jl < ol; omega)) (if_neg (by have := HH.out; show ¬ oh < jh; omega)) rfl)
      have hD := PutW.done (d := d) P4.out rfl
      rw [HP2.out, hw, HC2.out]
      exact bodyPost_end (results_none rfl _ _ _) rfl ⟨rfl, hD⟩

    ·by_cases hh : oh < jh
     ·have HL := hidI hl
      have HH := hidI hh
      repeat' ((fail_if_success (refine stop_at 10 ?_)); first | go_values | go_skip | go_guarded | go_step | go_upon | go_back | (simp only [Int.not_lt, Int.not_le] at *; go_simp) | (go_values <;> (try go_simp)) | (go_ite <;> go_prune <;> (try go_simp)) | (split <;> (first | (rename_i hx; exact (hx _ rfl).elim) | go_prune)))
      obtain ⟨w4, hw4⟩ : ∃ w4, w4 = (w3).setCell ⟨w.heap.size, 1, none⟩ (.int .i64 9223372036854775807) := ⟨_, rfl⟩
      rw [← hw4]
      have P4 : Hid (PutW w O A n l true ⟨jl, maxI, js⟩ ⟨ol, oh, true⟩ w4) := hidI (by rw [hw4]; exact (P3.out.hi _))
      clear x0 x1 x2 xf zx y0 y1 y2 hUU
      clear hw4 P3 ht2 hl hh
      have x0 := (blk P4.out.x).1 0
      have x1 := (blk P4.out.x).1 1
      have x2 := (blk P4.out.x).1 2
      have xf := (blk P4.out.x).2
      have zx := ltHeap P4.out.x
      simp only [List.getElem?_toArray, List.getElem?_cons_zero, List.getElem?_cons_succ] at x0 x1 x2
      have hXX := (P4.out.kept.cell (p := ⟨X, 0, none⟩) zX (fun h => h.elim xo xa)).trans HX.out
      have o0 := P4.out.row.cell (i := d * 3) (by omega)
      have o1 := P4.out.row.cell (i := d * 3 + 1) (by omega)
      have o2 := P4.out.row.cell (i := d * 3 + 2) (by omega)
      have of0 := P4.out.row.frozen (d * 3)
      have of1 := P4.out.row.frozen (d * 3 + 1)
      have of2 := P4.out.row.frozen (d * 3 + 2)
      try simp only at x0 x1 x2
      go_wp2_with fail
      have hw : widS turn ⟨ol, oh, true⟩ ⟨jl, jh, js⟩ = ⟨jl, maxI, js⟩ := (widS_lo ⟨H2.out, rfl⟩).trans (Spn.ext' (if_neg (by have := HL.out; show ¬ jl < ol; omega)) (if_pos (by have := HH.out; show oh < jh; omega)) rfl)
      have hD := PutW.done (d := d) P4.out rfl
      rw [HP2.out, hw, HC2.out]
      exact bodyPost_end (results_none rfl _ _ _) rfl ⟨rfl, hD⟩
     ·have HL := hidI hl
      have HH := hidI hh
      repeat' ((fail_if_success (refine stop_at 10 ?_)); first | go_values | go_skip | go_guarded | go_step | go_upon | go_back | (simp only [Int.not_lt, Int.not_le] at *; go_simp) | (go_values <;> (try go_simp)) | (go_ite <;> go_prune <;> (try go_simp)) | (split <;> (first | (rename_i hx; exact (hx _ rfl).elim) | go_prune)))
      obtain ⟨w4, hw4⟩ : ∃ w4, w4 = w3 := ⟨_, rfl⟩
      rw [← hw4]
      have P4 : Hid (PutW w O A n l true ⟨jl, jh, js⟩ ⟨ol, oh, true⟩ w4) := hidI (by rw [hw4]; exact P3.out)
      clear x0 x1 x2 xf zx y0 y1 y2 hUU
      clear hw4 P3 ht2 hl hh
      have x0 := (blk P4.out.x).1 0
      have x1 := (blk P4.out.x).1 1
      have x2 := (blk P4.out.x).1 2
      have xf := (blk P4.out.x).2
      have zx := ltHeap P4.out.x
      simp only [List.getElem?_toArray, List.getElem?_cons_zero, List.getElem?_cons_succ] at x0 x1 x2
      have hXX := (P4.out.kept.cell (p := ⟨X, 0, none⟩) zX (fun h => h.elim xo xa)).trans HX.out
      have o0 := P4.out.row.cell (i := d * 3) (by omega)
      have o1 := P4.out.row.cell (i := d * 3 + 1) (by omega)
      have o2 := P4.out.row.cell (i := d * 3 + 2) (by omega)
      have of0 := P4.out.row.frozen (d * 3)
      have of1 := P4.out.row.frozen (d * 3 + 1)
      have of2 := P4.out.row.frozen (d * 3 + 2)
      try simp only at x0 x1 x2
      go_wp2_with fail
      have hw : widS turn ⟨ol, oh, true⟩ ⟨jl, jh, js⟩ = ⟨jl, jh, js⟩ := (widS_lo ⟨H2.out, rfl⟩).trans (Spn.ext' (if_neg (by have := HL.out; show ¬ jl < ol; omega)) (if_neg (by have := HH.out; show ¬ oh < jh; omega)) rfl)
      have hD := PutW.done (d := d) P4.out rfl
      rw [HP2.out, hw, HC2.out]
      exact bodyPost_end (results_none rfl _ _ _) rfl ⟨rfl, hD⟩

   | false =>
    repeat' ((fail_if_success (refine stop_at 10 ?_)); first | go_values | go_skip | go_guarded | go_step | go_upon | go_back | (simp only [Int.not_lt, Int.not_le] at *; go_simp) | (go_values <;> (try go_simp)) | (go_ite <;> go_prune <;> (try go_simp)) | (split <;> (first | (rename_i hx; exact (hx _ rfl).elim) | go_prune)))
    obtain ⟨w4, hw4⟩ : ∃ w4, w4 = w3 := ⟨_, rfl⟩
    rw [← hw4]
    have P4 : Hid (PutW w O A n l true ⟨jl, jh, js⟩ ⟨ol, oh, false⟩ w4) := hidI (by rw [hw4]; exact P3.out)
    clear x0 x1 x2 xf zx y0 y1 y2 hUU
    clear hw4 P3 ht2
    have x0 := (blk P4.out.x).1 0
    have x1 := (blk P4.out.x).1 1
    have x2 := (blk P4.out.x).1 2
    have xf := (blk P4.out.x).2
    have zx := ltHeap P4.out.x
    simp only [List.getElem?_toArray, List.getElem?_cons_zero, List.getElem?_cons_succ] at x0 x1 x2
    have hXX := (P4.out.kept.cell (p := ⟨X, 0, none⟩) zX (fun h => h.elim xo xa)).trans HX.out
    have o0 := P4.out.row.cell (i := d * 3) (by omega)
    have o1 := P4.out.row.cell (i := d * 3 + 1) (by omega)
    have o2 := P4.out.row.cell (i := d * 3 + 2) (by omega)
    have of0 := P4.out.row.frozen (d * 3)
    have of1 := P4.out.row.frozen (d * 3 + 1)
    have of2 := P4.out.row.frozen (d * 3 + 2)
    try simp only at x0 x1 x2
    go_wp2_with fail
    have hw : widS turn ⟨ol, oh, false⟩ ⟨jl, jh, js⟩ = ⟨jl, jh, js⟩ := if_neg (fun h => by cases h.2)
    have hD := PutW.done (d := d) P4.out rfl
    rw [HP2.out, hw, HC2.out]
    exact bodyPost_end (results_none rfl _ _ _) rfl ⟨rfl, hD⟩

  ·have ht2 : decide ((2 : Int) < turn) = false := by simp; omega
   have H2 := hidI h2
   clear h2
   repeat' ((fail_if_success (refine stop_at 10 ?_)); first | go_values | go_skip | go_guarded | go_step | go_upon | go_back | (simp only [Int.not_lt, Int.not_le] at *; go_simp) | (go_values <;> (try go_simp)) | (go_ite <;> go_prune <;> (try go_simp)) | (split <;> (first | (rename_i hx; exact (hx _ rfl).elim) | go_prune)))
   obtain ⟨w4, hw4⟩ : ∃ w4, w4 = w3 := ⟨_, rfl⟩
   rw [← hw4]
   have P4 : Hid (PutW w O A n l true ⟨jl, jh, js⟩ ⟨ol, oh, os⟩ w4) := hidI (by rw [hw4]; exact P3.out)
   clear x0 x1 x2 xf zx y0 y1 y2 hUU
   clear hw4 P3 ht2
   have x0 := (blk P4.out.x).1 0
   have x1 := (blk P4.out.x).1 1
   have x2 := (blk P4.out.x).1 2
   have xf := (blk P4.out.x).2
   have zx := ltHeap P4.out.x
   simp only [List.getElem?_toArray, List.getElem?_cons_zero, List.getElem?_cons_succ] at x0 x1 x2
   have hXX := (P4.out.kept.cell (p := ⟨X, 0, none⟩) zX (fun h => h.elim xo xa)).trans HX.out
   have o0 := P4.out.row.cell (i := d * 3) (by omega)
   have o1 := P4.out.row.cell (i := d * 3 + 1) (by omega)
   have o2 := P4.out.row.cell (i := d * 3 + 2) (by omega)
   have of0 := P4.out.row.frozen (d * 3)
   have of1 := P4.out.row.frozen (d * 3 + 1)
   have of2 := P4.out.row.frozen (d * 3 + 2)
   try simp only at x0 x1 x2
   go_wp2_with fail
   have hw : widS turn ⟨ol, oh, os⟩ ⟨jl, jh, js⟩ = ⟨jl, jh, js⟩ := if_neg (fun h => H2.out h.1)
   have hD := PutW.done (d := d) P4.out rfl
   rw [HP2.out, hw, HC2.out]
   exact bodyPost_end (results_none rfl _ _ _) rfl ⟨rfl, hD⟩

end Go.Proofs.YtdjamkinijhjoaaDoor
namespace Go.Proofs.YtdjamkinijhjoaaDoor
open Go.RowKit

theorem funOk_of {f : FunL} (hS : FunR' f) {w : World} {fp : Option Addr} (hF : SliceAt w 6 (BlkR w) fp f.blocks) : FunOk f := fun x hx => by
 have hp0 := hS.par
 unfold itsF at hx
 obtain ⟨b, hb, hx⟩ := List.mem_flatMap.1 hx
 obtain ⟨k, hk, rfl⟩ := List.getElem_of_mem hb
 obtain ⟨bb, bo, q1, c1, q2, c2, q3, c3, _, _, _, _, _, _, _, _, _, _, _, _, hp, hi, _⟩ := blkGet hF (Below.refl _ _) hk
 rcases List.mem_append.1 hx with h | h
 ·obtain ⟨p, hp', rfl⟩ := List.mem_map.1 h
  obtain ⟨j, hj, rfl⟩ := List.getElem_of_mem hp'
  obtain ⟨_, _, q, c, _, _, _, _, _, hs⟩ := phiGet hp (Below.refl _ _) hj
  have hphi := hS.phi k hk _ (List.getElem_mem hj)
  have hd := hphi.dst
  refine ⟨by omega, fun v hv => ?_⟩
  have hsv := hphi.src _ hv
  obtain ⟨m, hm, rfl⟩ := List.getElem_of_mem hv
  obtain ⟨_, _, _, _, _, h64⟩ := valGet hs (Below.refl _ _) hm
  exact ⟨h64, fun hr => by have := hsv hr; omega⟩
 ·obtain ⟨i, hi', rfl⟩ := List.mem_map.1 h
  obtain ⟨j, hj, rfl⟩ := List.getElem_of_mem hi'
  obtain ⟨_, _, _, _, _, _, _, _, _, _, _, _, _, _, _, h3, h4, _⟩ := insGet hi (Below.refl _ _) hj
  obtain ⟨g1, g2, g3, ga, gb, _⟩ := hS.ins k hk _ (List.getElem_mem hj)
  exact ⟨by omega, g1, g2, h3, h4, fun hr => by have := ga hr; omega, fun hr => by have := gb hr; omega⟩

structure SpW (w : World) (fv : Array Value) (R X O T A : Nat) (l : Nat → Spn) (turn : Nat) (ag : Bool) (W : World) : Prop where
 below : Below w.heap.size w W
 fb : W.heap[w.heap.size]? = some (.cells fv 37 (0, 0))
 x : W.heap[X]? = some (.cells #[.slice (some ⟨O, 0, none⟩) R R] 71 (0, 0))
 o : W.rowIs O 74 (R * 3) (spF l)
 t : W.heap[T]? = some (.cells #[.int .i64 turn] 3 (0, 0))
 a : W.heap[A]? = some (.cells #[.bool ag] 4 (0, 0))
 hX : w.heap.size < X
 hO : w.heap.size < O
 hT : w.heap.size < T
 hA : w.heap.size < A
 xo : X ≠ O
 xa : X ≠ A
 oa : O ≠ A
 to : T ≠ O
 ta : T ≠ A
theorem SpW.next {w : World} {fv : Array Value} {R X O T A : Nat} {l : Nat → Spn} {turn : Nat} {ag : Bool} {W W' : World} (h : SpW w fv R X O T A l turn ag W) (hb : Below W.heap.size W W') : SpW w fv R X O T A l turn ag W' :=
 { h with
  below := h.below.trans (hb.mono h.below.size)
  fb := (hb.block _ (ltHeap h.fb)).trans h.fb
  x := (hb.block _ (ltHeap h.x)).trans h.x
  o := h.o.of_block (hb.block _ h.o.lt)
  t := (hb.block _ (ltHeap h.t)).trans h.t
  a := (hb.block _ (ltHeap h.a)).trans h.a }
theorem SpW.other {w : World} {fv : Array Value} {R X O T A : Nat} {l : Nat → Spn} {turn : Nat} {ag : Bool} {W W' : World} {S : Blks} (h : SpW w fv R X O T A l turn ag W) (hk : Kept S W W') (hS : ∀ i, S i → w.heap.size < i ∧ i ≠ X ∧ i ≠ O ∧ i ≠ T ∧ i ≠ A) : SpW w fv R X O T A l turn ag W' :=
 { h with
  below := h.below.trans (hk.below h.below.size fun i hi => Nat.le_of_lt (hS i hi).1)
  fb := (hk.block _ (ltHeap h.fb) (fun e => by have := (hS _ e).1; omega)).trans h.fb
  x := (hk.block _ (ltHeap h.x) (fun e => (hS _ e).2.1 rfl)).trans h.x
  o := h.o.of_block (hk.block _ h.o.lt (fun e => (hS _ e).2.2.1 rfl))
  t := (hk.block _ (ltHeap h.t) (fun e => (hS _ e).2.2.2.1 rfl)).trans h.t
  a := (hk.block _ (ltHeap h.a) (fun e => (hS _ e).2.2.2.2 rfl)).trans h.a }
theorem SpW.put {w : World} {fv : Array Value} {R X O T A : Nat} {l : Nat → Spn} {turn : Nat} {ag : Bool} {W W' : World} (h : SpW w fv R X O T A l turn ag W) {l' : Nat → Spn} {ag' : Bool}
  (hr : W'.rowIs O 74 (R * 3) (spF l')) (ha : W'.heap[A]? = some (.cells #[.bool ag'] 4 (0, 0))) (hk : Kept (fun k => k = O ∨ k = A) W W') : SpW w fv R X O T A l' turn ag' W' :=
 { h with
  below := h.below.trans (hk.below h.below.size fun i hi => by rcases hi with rfl | rfl; exact Nat.le_of_lt h.hO; exact Nat.le_of_lt h.hA)
  fb := (hk.block _ (ltHeap h.fb) (fun e => by have := h.hO; have := h.hA; omega)).trans h.fb
  x := (hk.block _ (ltHeap h.x) (fun e => e.elim h.xo h.xa)).trans h.x
  o := hr
  t := (hk.block _ (ltHeap h.t) (fun e => e.elim h.to h.ta)).trans h.t
  a := ha }
theorem put_at {w : World} {fv : Array Value} {R X O T A : Nat} {l : Nat → Spn} {turn : Nat} {ag : Bool} {W : World} (h : SpW w fv R X O T A l turn ag W) (hR : R ≤ 100) (ht : turn < 1000000000) {d : Nat} (hd : d < R) (s : Spn) :
  Calls Tryd.prog 51 #[.int .i64 d, .agg #[.int .i64 s.lo, .int .i64 s.hi, .bool s.has], .pointer (some ⟨X, 0, none⟩), .pointer (some ⟨A, 0, none⟩), .pointer (some ⟨T, 0, none⟩)] W fun e W' => e = .returned (.tuple #[]) ∧ SpW w fv R X O T A (putSp turn l d s) turn (ag || chgS l d s) W' ∧ Kept (fun k => k = O ∨ k = A) W W' :=
 (put_any X O A T R d turn l s ag W (by omega) hd ht ((blk h.x).1 0) h.o h.a ((blk h.t).1 0) h.xo h.xa h.oa h.to h.ta).mono fun _ _ ⟨he, hr, ha, hk⟩ => ⟨he, h.put hr ha hk, hk⟩
theorem val_at {w : World} {fv : Array Value} {R X O T A : Nat} {l : Nat → Spn} {turn : Nat} {ag : Bool} {W : World} (h : SpW w fv R X O T A l turn ag W) (hR : R ≤ 100) {r : Bool} {m : Int} (hv : r = true → 0 ≤ m ∧ m < R) :
  Calls Tryd.prog 49 #[.agg #[.bool r, .int .i64 m], .pointer (some ⟨X, 0, none⟩)] W fun e W' => e = .returned (.agg #[.int .i64 (vlS l (r, m)).lo, .int .i64 (vlS l (r, m)).hi, .bool (vlS l (r, m)).has]) ∧ Below W.heap.size W W' :=
 spVal_any X O R l r m W (by omega) ((blk h.x).1 0) h.o hv
theorem join_at (a b : Spn) (w : World) :
  Calls Tryd.prog 52 #[.agg #[.int .i64 a.lo, .int .i64 a.hi, .bool a.has], .agg #[.int .i64 b.lo, .int .i64 b.hi, .bool b.has]] w fun e w' => e = .returned (.agg #[.int .i64 (joinS a b).lo, .int .i64 (joinS a b).hi, .bool (joinS a b).has]) ∧ Below w.heap.size w w' := spanJoin_any a b w
theorem makes_at (op : Int) (x y : Spn) (w : World) (hop : 1 ≤ op ∧ op ≤ 22) (hx : SpOk x) (hy : SpOk y) (hA : AllW w) :
  Calls Tryd.prog 53 #[.int .i64 op, .agg #[.int .i64 x.lo, .int .i64 x.hi, .bool x.has], .agg #[.int .i64 y.lo, .int .i64 y.hi, .bool y.has]] w fun e w' => e = .returned (.agg #[.int .i64 (makS op x y).lo, .int .i64 (makS op x y).hi, .bool (makS op x y).has]) ∧ Below w.heap.size w w' := spanMakes_any op x y w hop hx hy hA
end Go.Proofs.YtdjamkinijhjoaaDoor
