/-
  What span.spans needs: the numbers of a function, the world within.
-/
import Derived.WalkKit
import Derived.WalkSpells
import Derived.WalkLawsBesides
import Derived.Test.YtdjamkinijhjoaaDoorJSpnH
import Derived.Test.YtdjamkinijhjoaaDoorJDomE
import Derived.Test.YtdjamkinijhjoaaDoorJSsaP
namespace Go.Proofs.YtdjamkinijhjoaaDoor
open Go.RowKit

theorem funOk_of {f : FunL} (hS : FunR' f) {w : World} {fp : Option Addr} (hF : SliceAt w 6 (BlkR w) fp f.blocks) : FunOk f := fun x hx => by
  have hp0 := hS.par
  unfold itsF at hx
  obtain ⟨b, hb, hx⟩ := List.mem_flatMap.1 hx
  obtain ⟨k, hk, rfl⟩ := List.getElem_of_mem hb
  obtain ⟨bb, bo, q1, c1, q2, c2, q3, c3, _, _, _, _, _, _, _, _, _, _, _, _, hp, hi, _⟩ := blkGet hF (Below.refl _ _) hk
  rcases List.mem_append.1 hx with h | h
  · obtain ⟨p, hp', rfl⟩ := List.mem_map.1 h
    obtain ⟨j, hj, rfl⟩ := List.getElem_of_mem hp'
    obtain ⟨_, _, q, c, _, _, _, _, _, hs⟩ := phiGet hp (Below.refl _ _) hj
    have hphi := hS.phi k hk _ (List.getElem_mem hj)
    have hd := hphi.dst
    refine ⟨by omega, fun v hv => ?_⟩
    have hsv := hphi.src _ hv
    obtain ⟨m, hm, rfl⟩ := List.getElem_of_mem hv
    obtain ⟨_, _, _, _, _, h64⟩ := valGet hs (Below.refl _ _) hm
    exact ⟨h64, fun hr => by have := hsv hr; omega⟩
  · obtain ⟨i, hi', rfl⟩ := List.mem_map.1 h
    obtain ⟨j, hj, rfl⟩ := List.getElem_of_mem hi'
    obtain ⟨_, _, _, _, _, _, _, _, _, _, _, _, _, _, _, h3, h4, _⟩ := insGet hi (Below.refl _ _) hj
    obtain ⟨g1, g2, g3, ga, gb, _⟩ := hS.ins k hk _ (List.getElem_mem hj)
    exact ⟨by omega, g1, g2, h3, h4, fun hr => by have := ga hr; omega, fun hr => by have := gb hr; omega⟩

/-- the world within span.spans -/
structure SpW (w : World) (fv : Array Value) (R X O T A : Nat) (l : Nat → Spn) (turn : Nat) (ag : Bool) (W : World) : Prop where
  below : Below w.heap.size w W
  fb : W.heap[w.heap.size]? = some (.cells fv 37 (0, 0))
  x : W.heap[X]? = some (.cells #[.slice (some ⟨O, 0, none⟩) R R] 71 (0, 0))
  o : W.rowIs O 74 (R * 3) (spF l)
  t : W.heap[T]? = some (.cells #[.int .i64 turn] 3 (0, 0))
  a : W.heap[A]? = some (.cells #[.bool ag] 4 (0, 0))
  hX : w.heap.size < X
  hO : w.heap.size < O
  hT : w.heap.size < T
  hA : w.heap.size < A
  xo : X ≠ O
  xa : X ≠ A
  oa : O ≠ A
  to : T ≠ O
  ta : T ≠ A
theorem SpW.next {w : World} {fv : Array Value} {R X O T A : Nat} {l : Nat → Spn} {turn : Nat} {ag : Bool} {W W' : World} (h : SpW w fv R X O T A l turn ag W) (hb : Below W.heap.size W W') : SpW w fv R X O T A l turn ag W' :=
  { h with
    below := h.below.trans (hb.mono h.below.size)
    fb := (hb.block _ (ltHeap h.fb)).trans h.fb
    x := (hb.block _ (ltHeap h.x)).trans h.x
    o := h.o.of_block (hb.block _ h.o.lt)
    t := (hb.block _ (ltHeap h.t)).trans h.t
    a := (hb.block _ (ltHeap h.a)).trans h.a }
/-- another block is written -/
theorem SpW.other {w : World} {fv : Array Value} {R X O T A : Nat} {l : Nat → Spn} {turn : Nat} {ag : Bool} {W W' : World} {S : Blks} (h : SpW w fv R X O T A l turn ag W) (hk : Kept S W W') (hS : ∀ i, S i → w.heap.size < i ∧ i ≠ X ∧ i ≠ O ∧ i ≠ T ∧ i ≠ A) : SpW w fv R X O T A l turn ag W' :=
  { h with
    below := h.below.trans (hk.below h.below.size fun i hi => Nat.le_of_lt (hS i hi).1)
    fb := (hk.block _ (ltHeap h.fb) (fun e => by have := (hS _ e).1; omega)).trans h.fb
    x := (hk.block _ (ltHeap h.x) (fun e => (hS _ e).2.1 rfl)).trans h.x
    o := h.o.of_block (hk.block _ h.o.lt (fun e => (hS _ e).2.2.1 rfl))
    t := (hk.block _ (ltHeap h.t) (fun e => (hS _ e).2.2.2.1 rfl)).trans h.t
    a := (hk.block _ (ltHeap h.a) (fun e => (hS _ e).2.2.2.2 rfl)).trans h.a }
theorem SpW.put {w : World} {fv : Array Value} {R X O T A : Nat} {l : Nat → Spn} {turn : Nat} {ag : Bool} {W W' : World} (h : SpW w fv R X O T A l turn ag W) {l' : Nat → Spn} {ag' : Bool}
    (hr : W'.rowIs O 74 (R * 3) (spF l')) (ha : W'.heap[A]? = some (.cells #[.bool ag'] 4 (0, 0))) (hk : Kept (fun k => k = O ∨ k = A) W W') : SpW w fv R X O T A l' turn ag' W' :=
  { h with
    below := h.below.trans (hk.below h.below.size fun i hi => by rcases hi with rfl | rfl; exact Nat.le_of_lt h.hO; exact Nat.le_of_lt h.hA)
    fb := (hk.block _ (ltHeap h.fb) (fun e => by have := h.hO; have := h.hA; omega)).trans h.fb
    x := (hk.block _ (ltHeap h.x) (fun e => e.elim h.xo h.xa)).trans h.x
    o := hr
    t := (hk.block _ (ltHeap h.t) (fun e => e.elim h.to h.ta)).trans h.t
    a := ha }
/-- put, in the world within -/
theorem put_at {w : World} {fv : Array Value} {R X O T A : Nat} {l : Nat → Spn} {turn : Nat} {ag : Bool} {W : World} (h : SpW w fv R X O T A l turn ag W) (hR : R ≤ 100) (ht : turn < 1000000000) {d : Nat} (hd : d < R) (s : Spn) :
    Calls Tryd.prog 51 #[.int .i64 d, .agg #[.int .i64 s.lo, .int .i64 s.hi, .bool s.has], .pointer (some ⟨X, 0, none⟩), .pointer (some ⟨A, 0, none⟩), .pointer (some ⟨T, 0, none⟩)] W fun e W' => e = .returned (.tuple #[]) ∧ SpW w fv R X O T A (putSp turn l d s) turn (ag || chgS l d s) W' ∧ Kept (fun k => k = O ∨ k = A) W W' :=
  (put_any X O A T R d turn l s ag W (by omega) hd ht ((blk h.x).1 0) h.o h.a ((blk h.t).1 0) h.xo h.xa h.oa h.to h.ta).mono fun _ _ ⟨he, hr, ha, hk⟩ => ⟨he, h.put hr ha hk, hk⟩
theorem val_at {w : World} {fv : Array Value} {R X O T A : Nat} {l : Nat → Spn} {turn : Nat} {ag : Bool} {W : World} (h : SpW w fv R X O T A l turn ag W) (hR : R ≤ 100) {r : Bool} {m : Int} (hv : r = true → 0 ≤ m ∧ m < R) :
    Calls Tryd.prog 49 #[.agg #[.bool r, .int .i64 m], .pointer (some ⟨X, 0, none⟩)] W fun e W' => e = .returned (.agg #[.int .i64 (vlS l (r, m)).lo, .int .i64 (vlS l (r, m)).hi, .bool (vlS l (r, m)).has]) ∧ Below W.heap.size W W' :=
  spVal_any X O R l r m W (by omega) ((blk h.x).1 0) h.o hv
theorem join_at (a b : Spn) (w : World) :
    Calls Tryd.prog 52 #[.agg #[.int .i64 a.lo, .int .i64 a.hi, .bool a.has], .agg #[.int .i64 b.lo, .int .i64 b.hi, .bool b.has]] w fun e w' => e = .returned (.agg #[.int .i64 (joinS a b).lo, .int .i64 (joinS a b).hi, .bool (joinS a b).has]) ∧ Below w.heap.size w w' := spanJoin_any a b w
theorem makes_at (op : Int) (x y : Spn) (w : World) (hop : 1 ≤ op ∧ op ≤ 22) (hx : SpOk x) (hy : SpOk y) (hA : AllW w) :
    Calls Tryd.prog 53 #[.int .i64 op, .agg #[.int .i64 x.lo, .int .i64 x.hi, .bool x.has], .agg #[.int .i64 y.lo, .int .i64 y.hi, .bool y.has]] w fun e w' => e = .returned (.agg #[.int .i64 (makS op x y).lo, .int .i64 (makS op x y).hi, .bool (makS op x y).has]) ∧ Below w.heap.size w w' := spanMakes_any op x y w hop hx hy hA
end Go.Proofs.YtdjamkinijhjoaaDoor
