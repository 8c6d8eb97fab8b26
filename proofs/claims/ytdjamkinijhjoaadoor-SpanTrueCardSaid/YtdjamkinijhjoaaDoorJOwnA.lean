/-
  Plain: dom.TreeOf, turn by turn: the best of the ways in, and what falls with each change.
  Plain: slices in memory of the call's own, with the blocks that they and what lies in them use: taken apart and put back.
-/
import Derived.Test.YtdjamkinijhjoaaDoorJDomA
namespace Go.Proofs.YtdjamkinijhjoaaDoor

def upN (u : Nat → Int) (c : Nat) : Nat := (u c).toNat
def mkN (u : Nat → Int) (c : Nat) : Prop := 0 ≤ u c
def putI (u : Nat → Int) (c : Nat) (m : Int) (a : Nat) : Int := if a = c then m else u a
def bestI (u : Nat → Int) (pl : Nat → Nat) (b : Int) (p : Nat) : Int :=
 if u p < 0 then b else if b < 0 then (p : Int) else (meetN (upN u) pl (pl b.toNat + pl p + 1) b.toNat p : Nat)
def bestsI (u : Nat → Int) (pl : Nat → Nat) (l : List Nat) : Int := l.foldl (bestI u pl) (-1)

section
variable {R : Nat → Prop} {pl : Nat → Nat} {u : Nat → Int}

structure BestTo (u : Nat → Int) (b : Int) (l : List Nat) (r : Int) : Prop where
 made : 0 ≤ r ∧ mkN u r.toNat
 had : 0 ≤ b → Ch (upN u) b.toNat r.toNat
 on : ∀ p ∈ l, mkN u p → Ch (upN u) p r.toNat
 all : ∀ x, (0 ≤ b → Ch (upN u) b.toNat x) → (∀ p ∈ l, mkN u p → Ch (upN u) p x) → Ch (upN u) r.toNat x

theorem DomI.bests (h : DomI R pl (mkN u) (upN u)) : ∀ (l : List Nat) (b : Int), (0 ≤ b → mkN u b.toNat) → (0 ≤ b ∨ ∃ p ∈ l, mkN u p) → BestTo u b l (l.foldl (bestI u pl) b)
 | [], b, hb, hor => by
  have h0 : 0 ≤ b := hor.resolve_right (by simp)
  exact ⟨⟨h0, hb h0⟩, fun _ => .refl _, (by simp), fun x hx _ => hx h0⟩
 | p :: l, b, hb, hor => by
  show BestTo u b (p :: l) (l.foldl (bestI u pl) (bestI u pl b p))
  by_cases hp : u p < 0
  ·have e : bestI u pl b p = b := by unfold bestI; rw [if_pos hp]
   have np : ¬ mkN u p := fun hm => by unfold mkN at hm; omega
   rw [e]
   have ih := h.bests l b hb (by
    rcases hor with h0 | ⟨q, hq, hm⟩
    ·exact .inl h0
    ·rcases List.mem_cons.1 hq with e | hq
     ·subst e; exact absurd hm np
     ·exact .inr ⟨q, hq, hm⟩)
   refine ⟨ih.made, ih.had, fun q hq hm => ?_, fun x h1 h2 => ih.all x h1 fun q hq => h2 q (List.mem_cons_of_mem _ hq)⟩
   rcases List.mem_cons.1 hq with e | hq
   ·subst e; exact absurd hm np
   ·exact ih.on q hq hm
  ·have hm : mkN u p := by unfold mkN; omega
   by_cases h0 : b < 0
   ·have e : bestI u pl b p = (p : Int) := by unfold bestI; rw [if_neg hp, if_pos h0]
    rw [e]
    have ih := h.bests l (p : Int) (fun _ => hm) (.inl (by omega))
    refine ⟨ih.made, fun hb0 => by omega, fun q hq hmq => ?_, fun x _ h2 => ih.all x (fun _ => h2 p List.mem_cons_self hm) fun q hq => h2 q (List.mem_cons_of_mem _ hq)⟩
    rcases List.mem_cons.1 hq with e | hq
    ·subst e; exact ih.had (by omega)
    ·exact ih.on q hq hmq
   ·have hb0 : 0 ≤ b := by omega
    have hmb := hb hb0
    have hmeet := h.meet (pl b.toNat + pl p + 1) b.toNat p (by omega) hmb hm
    have e : bestI u pl b p = ((meetN (upN u) pl (pl b.toNat + pl p + 1) b.toNat p : Nat) : Int) := by unfold bestI; rw [if_neg hp, if_neg h0]
    rw [e]
    generalize meetN (upN u) pl (pl b.toNat + pl p + 1) b.toNat p = m at hmeet
    have hmm := (h.ch hmeet.right hm).1
    have ih := h.bests l (m : Int) (fun _ => hmm) (.inl (by omega))
    have hh : Ch (upN u) m (l.foldl (bestI u pl) (m : Int)).toNat := ih.had (by omega)
    refine ⟨ih.made, fun _ => hmeet.left.trans hh, fun q hq hmq => ?_, fun x h1 h2 => ih.all x (fun _ => hmeet.all x (h1 hb0) (h2 p List.mem_cons_self hm)) fun q hq => h2 q (List.mem_cons_of_mem _ hq)⟩
    rcases List.mem_cons.1 hq with e | hq
    ·subst e; exact hmeet.right.trans hh
    ·exact ih.on q hq hmq

variable {ins : Nat → List Nat} {par : Nat → Nat} {j : Nat}
theorem DomJ.best (h : DomJ R pl ins par j (mkN u) (upN u)) {c : Nat} (hR : R c) (hj : pl c = j) (h0 : c ≠ 0) :
  ∃ m : Nat, bestsI u pl (ins c) = (m : Int) ∧ BestOf ins (mkN u) (upN u) c m ∧ mkN u m ∧ pl m < pl c := by
 obtain ⟨q1, q2, q3⟩ := h.parIn c hR h0
 have hp : mkN u (par c) := h.past _ q2 (by omega)
 have hb := h.bests (ins c) (-1) (fun hn => by omega) (.inr ⟨_, q1, hp⟩)
 refine ⟨(bestsI u pl (ins c)).toNat, ?_, ⟨hb.on, fun x hx => hb.all x (fun hn => by omega) hx⟩, hb.made.2, ?_⟩
 ·have := hb.made.1
  unfold bestsI
  omega
 ·have := (h.ch (hb.on _ q1 hp) hp).2
  unfold bestsI
  omega

def rankU (pl : Nat → Nat) (n : Nat) (u : Nat → Int) (c : Nat) : Nat := if u c < 0 then n else pl (u c).toNat
def ranks (pl : Nat → Nat) (n : Nat) (l : List Nat) (u : Nat → Int) : Nat := (l.map (rankU pl n u)).sum

theorem rank_put_other {n c a : Nat} {m : Int} (h : a ≠ c) : rankU pl n (putI u c m) a = rankU pl n u a := by
 unfold rankU putI; simp [h]
theorem rank_put_self {n c : Nat} {m : Nat} : rankU pl n (putI u c (m : Int)) c = pl m := by
 unfold rankU putI
 rw [if_pos rfl, if_neg (by omega)]
 rfl
theorem ranks_le {n c m : Nat} (hle : pl m ≤ rankU pl n u c) : ∀ l : List Nat, ranks pl n l (putI u c (m : Int)) ≤ ranks pl n l u
 | [] => Nat.le_refl _
 | a :: l => by
  have ih := ranks_le hle l
  unfold ranks at ih ⊢
  simp only [List.map_cons, List.sum_cons]
  by_cases e : a = c
  ·subst e; rw [rank_put_self]; omega
  ·rw [rank_put_other e]; omega
theorem ranks_lt {n c m : Nat} (hle : pl m < rankU pl n u c) : ∀ l : List Nat, c ∈ l → ranks pl n l (putI u c (m : Int)) < ranks pl n l u
 | [], hc => by cases hc
 | a :: l, hc => by
  have ih0 := ranks_le (Nat.le_of_lt hle) l
  have ih : c ∈ l → _ := ranks_lt hle l
  unfold ranks at ih ih0 ⊢
  simp only [List.map_cons, List.sum_cons]
  by_cases e : a = c
  ·subst e; rw [rank_put_self]; omega
  ·rw [rank_put_other e]
   have := ih ((List.mem_cons.1 hc).resolve_left (fun h => e h.symm))
   omega

theorem DomJ.falls {n : Nat} (h : DomJ R pl ins par j (mkN u) (upN u)) (hn : ∀ c, R c → pl c < n) {c m : Nat} (hR : R c) (hj : pl c = j) (h0 : c ≠ 0) (hb : BestOf ins (mkN u) (upN u) c m) (hlt : pl m < pl c) (hne : u c ≠ (m : Int)) (l : List Nat) (hc : c ∈ l) :
  ranks pl n l (putI u c (m : Int)) < ranks pl n l u := by
 refine ranks_lt ?_ l hc
 unfold rankU
 by_cases hu : u c < 0
 ·rw [if_pos hu]
  have := hn c hR
  omega
 ·rw [if_neg hu]
  have hm : mkN u c := by unfold mkN; omega
  refine h.chLess (h.mkUp _ hm) (h.rise hj h0 hb hm) fun e => hne ?_
  unfold upN at e
  omega

theorem mkN_put {c : Nat} {m : Nat} : mkN (putI u c (m : Int)) = fun a => a = c ∨ mkN u a := by
 funext a
 unfold mkN putI
 by_cases e : a = c
 ·simp [e]
 ·simp [e]
theorem upN_put {c : Nat} {m : Nat} : upN (putI u c (m : Int)) = putUp (upN u) c m := by
 funext a
 unfold upN putI putUp
 by_cases e : a = c <;> simp [e]
theorem DomJ.turnI (h : DomJ R pl ins par j (mkN u) (upN u)) {c m : Nat} (hR : R c) (hj : pl c = j) (h0 : c ≠ 0) (hb : BestOf ins (mkN u) (upN u) c m) :
  DomJ R pl ins par (j + 1) (mkN (putI u c (m : Int))) (upN (putI u c (m : Int))) := by
 rw [mkN_put, upN_put]
 exact h.turn hR hj h0 hb
theorem putI_same {c : Nat} : putI u c (u c) = u := by
 funext a
 unfold putI
 by_cases e : a = c <;> simp [e]
end
end Go.Proofs.YtdjamkinijhjoaaDoor
namespace Go.Proofs.YtdjamkinijhjoaaDoor
open Go.RowKit

abbrev Blks := Nat → Prop
def Apart (S T : Blks) : Prop := ∀ k, S k → T k → False
theorem Apart.symm {S T : Blks} (h : Apart S T) : Apart T S := fun k a b => h k b a
theorem Apart.mono {S T S' T' : Blks} (h : Apart S T) (h1 : ∀ k, S' k → S k) (h2 : ∀ k, T' k → T k) : Apart S' T' := fun k a b => h k (h1 k a) (h2 k b)

structure Kept (S : Blks) (w w' : World) : Prop where
 os : w'.os = w.os
 tape : w'.tape = w.tape
 output : w'.output = w.output
 size : w.heap.size ≤ w'.heap.size
 block : ∀ k, k < w.heap.size → ¬ S k → w'.heap[k]? = w.heap[k]?
theorem Kept.refl (S : Blks) (w : World) : Kept S w w := ⟨rfl, rfl, rfl, Nat.le_refl _, fun _ _ _ => rfl⟩
theorem Kept.trans {S S' : Blks} {a b c : World} (h : Kept S a b) (k : Kept S' b c) (hs : ∀ i, i < a.heap.size → S' i → S i) : Kept S a c :=
 ⟨k.os.trans h.os, k.tape.trans h.tape, k.output.trans h.output, Nat.le_trans h.size k.size, fun i hi hn => (k.block i (Nat.lt_of_lt_of_le hi h.size) (fun e => hn (hs i hi e))).trans (h.block i hi hn)⟩
theorem Kept.mono {S S' : Blks} {a b : World} (h : Kept S a b) (hs : ∀ i, i < a.heap.size → S i → S' i) : Kept S' a b :=
 ⟨h.os, h.tape, h.output, h.size, fun i hi hn => h.block i hi (fun e => hn (hs i hi e))⟩
theorem Kept.below {S : Blks} {a b : World} (h : Kept S a b) {B : Nat} (hB : B ≤ a.heap.size) (hs : ∀ i, S i → B ≤ i) : Below B a b :=
 ⟨h.os, h.tape, h.output, h.size, fun k hk => h.block k (by omega) (fun e => by have := hs k e; omega)⟩
theorem Kept.of_below {S : Blks} {a b : World} (h : Below a.heap.size a b) : Kept S a b := ⟨h.os, h.tape, h.output, h.size, fun k hk _ => h.block k hk⟩
theorem Kept.of_grown {S : Blks} {a b : World} {r : Option Nat} (h : a.grownBy b r) (hr : ∀ g, r = some g → S g) : Kept S a b :=
 ⟨h.os, h.tape, h.output, h.size, fun k hk hn => h.block k hk (fun e => hn (hr k e.symm))⟩
theorem Kept.setCell {S : Blks} {a b : World} (h : Kept S a b) {p : Addr} (hp : S p.block) (v : Value) : Kept S a (b.setCell p v) :=
 ⟨h.os, h.tape, h.output, by rw [Go.Deep.nblk_setCell]; exact h.size, fun k hk hn => (Go.Deep.blk_setCell_other b p v k (fun e => hn (by rw [e]; exact hp))).trans (h.block k hk hn)⟩
theorem Kept.alloc {S : Blks} {a b : World} (h : Kept S a b) (o : Obj) : Kept S a (b.alloc o) :=
 ⟨h.os, h.tape, h.output, by have := h.size; simp; omega, fun k hk hn => (Below.heap_alloc b o k (Nat.lt_of_lt_of_le hk h.size)).trans (h.block k hk hn)⟩
theorem Kept.drew {S : Blks} {a b : World} (h : Kept S a b) : Kept S a b.drew := ⟨h.os, h.tape, h.output, h.size, h.block⟩
theorem Kept.cell {S : Blks} {a b : World} (h : Kept S a b) {p : Addr} (hp : p.block < a.heap.size) (hn : ¬ S p.block) : b.cell? p = a.cell? p := World.cell?_of_block (h.block _ hp hn)
theorem Kept.frozen {S : Blks} {a b : World} (h : Kept S a b) {p : Addr} (hp : p.block < a.heap.size) (hn : ¬ S p.block) : b.frozen? p = a.frozen? p := World.frozen?_of_block (h.block _ hp hn)

abbrev ElemO (α : Type) := World → List Value → α → Blks → Prop
def LocO {α : Type} (R : ElemO α) : Prop := ∀ w w' cs x S, R w cs x S → (∀ k, S k → w'.heap[k]? = w.heap[k]?) → w.heap.size ≤ w'.heap.size → R w' cs x S
def InB (w : World) (S : Blks) : Prop := ∀ k, S k → k < w.heap.size
theorem InB.mono {w w' : World} {S : Blks} (h : InB w S) (hs : w.heap.size ≤ w'.heap.size) : InB w' S := fun k hk => Nat.lt_of_lt_of_le (h k hk) hs

structure SlW {α : Type} (e : TypeId) (size : Nat) (R : ElemO α) (w : World) (v : Value) (xs : List α) (S : Blks) (cs : Nat → List Value) (T : Nat → Blks) : Prop where
 own : w.ownsRow 0 e size v xs.length ((List.range xs.length).flatMap cs)
 len : ∀ i, i < xs.length → (cs i).length = size
 one : ∀ i, i < xs.length → ∀ u ∈ cs i, u.oneCell' = true
 el : ∀ i (h : i < xs.length), R w (cs i) xs[i] (T i)
 two : ∀ i j, i < xs.length → j < xs.length → i ≠ j → Apart (T i) (T j)
 off : ∀ i, i < xs.length → ∀ g, v.ownBlock = some g → ¬ T i g
 blk : ∀ g, v.ownBlock = some g → S g
 sub : ∀ i, i < xs.length → ∀ k, T i k → S k
 inb : InB w S
def SlO {α : Type} (e : TypeId) (size : Nat) (R : ElemO α) (w : World) (v : Value) (xs : List α) (S : Blks) : Prop := ∃ cs T, SlW e size R w v xs S cs T

section
variable {α : Type} {e : TypeId} {size : Nat} {R : ElemO α} {w w' : World} {v : Value} {xs : List α} {S : Blks}
theorem SlO.nil (e : TypeId) (size : Nat) (R : ElemO α) (w : World) {S : Blks} (h : InB w S) : SlO e size R w (.slice none 0 0) [] S :=
 ⟨fun _ => [], fun _ _ => False, World.ownsRow_nil _ _ _ _, fun i h => (by simp at h), fun i h => (by simp at h), fun i h => (by simp at h), fun i j h => (by simp at h), fun i h => (by simp at h), fun g h => (by cases h), fun i h => (by simp at h), h⟩
theorem SlO.inb (h : SlO e size R w v xs S) : InB w S := by obtain ⟨_, _, h⟩ := h; exact h.inb
theorem SlO.val (h : SlO e size R w v xs S) : ∃ p c, v = .slice p xs.length c ∧ (p = none → xs.length = 0 ∧ c = 0) ∧ xs.length ≤ c := by
 obtain ⟨_, _, h⟩ := h
 rcases h.own.2 with ⟨h1, h2⟩ | ⟨g, cap, cur, h1, _, _, hc, _⟩
 ·exact ⟨none, 0, by rw [h1, h2], fun _ => ⟨h2, rfl⟩, by omega⟩
 ·exact ⟨_, _, h1, fun e => (by cases e), hc⟩
theorem SlO.loc (hR : LocO R) (h : SlO e size R w v xs S) (hk : ∀ k, S k → w'.heap[k]? = w.heap[k]?) (hs : w.heap.size ≤ w'.heap.size) : SlO e size R w' v xs S := by
 obtain ⟨cs, T, h⟩ := h
 refine ⟨cs, T, ?_, h.len, h.one, fun i hi => hR _ _ _ _ _ (h.el i hi) (fun k hk2 => hk k (h.sub i hi k hk2)) hs, h.two, h.off, h.blk, h.sub, h.inb.mono hs⟩
 refine ⟨h.own.1, ?_⟩
 rcases h.own.2 with h1 | ⟨g, cap, cur, hv, hb, hg, r⟩
 ·exact .inl h1
 ·exact .inr ⟨g, cap, cur, hv, hb, by rw [hk g (h.blk g (by rw [hv]; rfl))]; exact hg, r⟩
theorem SlO.kept {U : Blks} (hR : LocO R) (h : SlO e size R w v xs S) (hk : Kept U w w') (ha : Apart U S) : SlO e size R w' v xs S :=
 h.loc hR (fun k hs => hk.block k (h.inb k hs) (fun hu => ha k hu hs)) hk.size
theorem SlO.below (hR : LocO R) (h : SlO e size R w v xs S) (hb : Below w.heap.size w w') : SlO e size R w' v xs S := h.kept (U := fun _ => False) hR (Kept.of_below hb) (fun _ h _ => h)
theorem SlO.grow (h : SlO e size R w v xs S) {S' : Blks} (hs : ∀ k, S k → S' k) (hi : InB w S') : SlO e size R w v xs S' := by
 obtain ⟨cs, T, h⟩ := h
 exact ⟨cs, T, h.own, h.len, h.one, h.el, h.two, h.off, fun g hg => hs g (h.blk g hg), fun i hi k hk => hs k (h.sub i hi k hk), hi⟩
end

theorem flat_len {cs : Nat → List Value} {size : Nat} : ∀ n, (∀ i, i < n → (cs i).length = size) → ((List.range n).flatMap cs).length = n * size
 | 0, _ => by simp
 | n + 1, h => by
  rw [List.range_succ, List.flatMap_append, List.length_append, flat_len n (fun i hi => h i (by omega)), Nat.add_mul]
  simp [h n (by omega)]
theorem flat_get {cs : Nat → List Value} {size : Nat} : ∀ n, (∀ i, i < n → (cs i).length = size) → ∀ i j, i < n → j < size → ((List.range n).flatMap cs)[i * size + j]? = (cs i)[j]?
 | 0, _, i, j, hi, hj => by omega
 | n + 1, h, i, j, hi, hj => by
  have hl := flat_len n (fun i hi => h i (by omega))
  rw [List.range_succ, List.flatMap_append]
  rcases Nat.lt_or_ge i n with g | g
  ·have : i * size + j < n * size := by
    have : (i + 1) * size ≤ n * size := Nat.mul_le_mul_right _ g
    rw [Nat.add_mul] at this
    omega
   rw [List.getElem?_append_left (by rw [hl]; exact this), flat_get n (fun i hi => h i (by omega)) i j g hj]
  ·obtain rfl : i = n := by omega
   rw [List.getElem?_append_right (by rw [hl]; omega), hl]
   simp
theorem flat_ext {n size : Nat} {cs ds : Nat → List Value} (_h1 : ∀ i, i < n → (cs i).length = size) (h2 : ∀ i, i < n → (ds i).length = size) (hsz : 0 < size) {l : List Value} (hl : l.length = n * size) (h : ∀ i j, i < n → j < size → l[i * size + j]? = (ds i)[j]?) : l = (List.range n).flatMap ds := by
 refine List.ext_getElem? fun k => ?_
 rcases Nat.lt_or_ge k (n * size) with g | g
 ·have hi : k / size < n := Nat.div_lt_of_lt_mul (by rw [Nat.mul_comm]; exact g)
  have hj := Nat.mod_lt k hsz
  have e : k = k / size * size + k % size := by rw [Nat.mul_comm]; exact (Nat.div_add_mod k size).symm
  rw [e, flat_get n h2 _ _ hi hj]
  exact h _ _ hi hj
 ·rw [List.getElem?_eq_none (by omega), List.getElem?_eq_none (by rw [flat_len n h2]; exact g)]

def RowPut (w w' : World) (e : TypeId) (g o size : Nat) (cs : List Value) : Prop :=
 ∃ cur cur' : Array Value, w.heap[g]? = some (.cells cur e (0, 0)) ∧ w'.heap[g]? = some (.cells cur' e (0, 0)) ∧ cur'.size = cur.size ∧ (∀ j, j < size → cur'[o + j]? = cs[j]?) ∧ ∀ j, (j < o ∨ o + size ≤ j) → cur'[j]? = cur[j]?
theorem RowPut.same {w w' : World} {e : TypeId} {g o size : Nat} {cs : List Value} {cur : Array Value} (h : w.heap[g]? = some (.cells cur e (0, 0))) (h2 : w'.heap[g]? = w.heap[g]?) (hc : ∀ j, j < size → w.cell? ⟨g, o + j, none⟩ = cs[j]?) : RowPut w w' e g o size cs :=
 ⟨cur, cur, h, h2.trans h, rfl, fun j hj => by rw [← hc j hj, cell_of_row w g _ cur e (0, 0) h], fun _ _ => rfl⟩
theorem row_set {w : World} {g : Nat} {cur : Array Value} {e : TypeId} (h : w.heap[g]? = some (.cells cur e (0, 0))) (i : Nat) (v : Value) : (w.setCell ⟨g, i, none⟩ v).heap[g]? = some (.cells (cur.setIfInBounds i v) e (0, 0)) := by
 unfold World.setCell
 rw [Array.getElem?_modify, if_pos rfl, h]
 rfl
theorem RowPut.set {w w' : World} {e : TypeId} {g o size j : Nat} {cs : List Value} (h : RowPut w w' e g o size cs) (hl : cs.length = size) (hj : j < size) (v : Value) : RowPut w (w'.setCell ⟨g, o + j, none⟩ v) e g o size (cs.set j v) := by
 obtain ⟨cur, cur', h1, h2, h3, h4, h5⟩ := h
 refine ⟨cur, cur'.setIfInBounds (o + j) v, h1, row_set h2 _ v, by simpa using h3, fun k hk => ?_, fun k hk => ?_⟩
 ·rw [Array.getElem?_setIfInBounds, List.getElem?_set]
  have hlt : o + j < cur'.size := by
   rcases Nat.lt_or_ge (o + j) cur'.size with a | a
   ·exact a
   ·have := h4 j hj
    rw [Array.getElem?_eq_none a, List.getElem?_eq_getElem (by omega)] at this
    cases this
  by_cases e1 : j = k
  ·subst e1
   rw [if_pos rfl, if_pos rfl, if_pos hlt, if_pos (by omega)]
  ·rw [if_neg (by omega), if_neg e1]
   exact h4 k hk
 ·rw [Array.getElem?_setIfInBounds, if_neg (by omega)]
  exact h5 k hk

section
variable {α : Type} {e : TypeId} {size : Nat} {R : ElemO α} {w : World} {v : Value} {xs : List α} {S : Blks}
theorem SlO.focus (hR : LocO R) (hsz : 0 < size) (h : SlO e size R w v xs S) {i : Nat} (hi : i < xs.length) : ∃ g c cs T, v = .slice (some ⟨g, 0, none⟩) xs.length c ∧ g < w.heap.size ∧ S g ∧ cs.length = size ∧ R w cs xs[i] T ∧ ¬ T g ∧ (∀ k, T k → S k) ∧
  (∀ j, j < size → w.cell? ⟨g, i * size + j, none⟩ = cs[j]?) ∧ (∀ o, w.frozen? ⟨g, o, none⟩ = false) ∧ (∃ cur, w.heap[g]? = some (.cells cur e (0, 0))) ∧
  ∀ (w' : World) (cs' : List Value) (x' : α) (T' : Blks), RowPut w w' e g (i * size) size cs' → cs'.length = size → (∀ u ∈ cs', u.oneCell' = true) → w.heap.size ≤ w'.heap.size → (∀ k, S k → ¬ T k → k ≠ g → w'.heap[k]? = w.heap[k]?) →
   R w' cs' x' T' → (∀ k, T' k → (T k ∨ w.heap.size ≤ k) ∧ k < w'.heap.size) → SlO e size R w' v (xs.set i x') (fun k => S k ∨ T' k) := by
 obtain ⟨cs, T, h⟩ := h
 rcases h.own.2 with ⟨_, h2⟩ | ⟨g, cap, cur, hv, hb, hg, hc1, hc2, hc3, htk⟩
 ·omega
 have hgs := (Array.getElem?_eq_some_iff.1 hg).1
 have hcell : ∀ m j, m < xs.length → j < size → cur[m * size + j]? = (cs m)[j]? := fun m j hm hj => by
  have hlt : m * size + j < xs.length * size := by
   have : (m + 1) * size ≤ xs.length * size := Nat.mul_le_mul_right _ hm
   rw [Nat.add_mul] at this
   omega
  rw [← flat_get xs.length h.len m j hm hj, ← htk, List.getElem?_take_of_lt hlt, Array.getElem?_toList]
 have hob : v.ownBlock = some g := by rw [hv]; rfl
 refine ⟨g, cap, cs i, T i, hv, hgs, h.blk g hob, h.len i hi, h.el i hi, h.off i hi g hob, h.sub i hi, fun j hj => ?_, fun o => (blk hg).2 o, ⟨cur, hg⟩, ?_⟩
 ·rw [cell_of_row w g _ cur e (0, 0) hg]
  exact hcell i j hi hj
 ·rintro w' cs' x' T' ⟨cu, cur', p1, p2, p3, p4, p5⟩ hl' h1' hs hk hR' hT'
  rw [hg] at p1
  cases p1
  have hlen : (xs.set i x').length = xs.length := by simp
  refine ⟨fun m => if m = i then cs' else cs m, fun m => if m = i then T' else T m, ?_, fun m hm => ?_, fun m hm => ?_, fun m hm => ?_, fun m n hm hn hmn => ?_, fun m hm g' hg' => ?_, fun g' hg' => .inl (h.blk g' hg'), fun m hm k hk2 => ?_, ?_⟩
  ·rw [hlen]
   have hlc : ∀ m, m < xs.length → (if m = i then cs' else cs m).length = size := fun m hm => by
    split
    ·exact hl'
    ·exact h.len m hm
   refine ⟨by rw [flat_len _ hlc], .inr ⟨g, cap, cur', hv, hb, p2, hc1, hc2, by rw [p3]; exact hc3, ?_⟩⟩
   have hle : xs.length * size ≤ cap * size := Nat.mul_le_mul_right _ hc1
   refine flat_ext h.len hlc hsz (by simp; omega) fun m j hm hj => ?_
   have hlt : m * size + j < xs.length * size := by
    have : (m + 1) * size ≤ xs.length * size := Nat.mul_le_mul_right _ hm
    rw [Nat.add_mul] at this
    omega
   rw [List.getElem?_take_of_lt hlt, Array.getElem?_toList]
   by_cases e1 : m = i
   ·subst e1
    rw [if_pos rfl]
    exact p4 j hj
   ·rw [if_neg e1, p5 _ ?_]
    ·exact hcell m j hm hj
    ·rcases Nat.lt_or_ge m i with a | a
     ·left
      have : (m + 1) * size ≤ i * size := Nat.mul_le_mul_right _ a
      rw [Nat.add_mul] at this
      omega
     ·right
      have : (i + 1) * size ≤ m * size := Nat.mul_le_mul_right _ (by omega)
      rw [Nat.add_mul] at this
      omega
  ·rw [hlen] at hm
   split
   ·exact hl'
   ·exact h.len m hm
  ·rw [hlen] at hm
   split
   ·exact h1'
   ·exact h.one m hm
  ·have hm2 : m < xs.length := by rw [← hlen]; exact hm
   by_cases e1 : m = i
   ·subst e1
    simpa using hR'
   ·simp only [if_neg e1, List.getElem_set_ne (Ne.symm e1)]
    refine hR _ _ _ _ _ (h.el m hm2) (fun k hk2 => hk k (h.sub m hm2 k hk2) (fun hk3 => h.two m i hm2 hi e1 k hk2 hk3) (fun e2 => h.off m hm2 g hob (by rw [← e2]; exact hk2))) hs
  ·rw [hlen] at hm hn
   have key : ∀ m, m < xs.length → m ≠ i → Apart T' (T m) := fun m hm hmi k a b => by
    rcases (hT' k a).1 with c | c
    ·exact h.two m i hm hi hmi k b c
    ·have := h.inb k (h.sub m hm k b)
     omega
   split
   ·next e1 =>
    rw [if_neg (by omega)]
    exact key n hn (by omega)
   ·next e1 =>
    split
    ·exact (key m hm e1).symm
    ·exact h.two m n hm hn hmn
  ·rw [hlen] at hm
   rw [hob] at hg'
   cases hg'
   split
   ·intro a
    rcases (hT' _ a).1 with c | c
    ·exact h.off i hi _ hob c
    ·omega
   ·exact h.off m hm _ hob
  ·rw [hlen] at hm
   split at hk2
   ·exact .inr hk2
   ·exact .inl (h.sub m hm k hk2)
  ·rintro k (a | a)
   ·exact (h.inb.mono hs) k a
   ·exact (hT' k a).2
theorem SlW.snoc {w' : World} {v' : Value} {c : List Value} {x : α} {T : Blks} {cs : Nat → List Value} {U : Nat → Blks} (hR : LocO R) (h : SlW e size R w v xs S cs U) (hx : R w c x T) (hl : c.length = size) (h1 : ∀ u ∈ c, u.oneCell' = true) (hT : Apart S T) (hTi : InB w T)
  (hown : w'.ownsRow 0 e size v' (xs.length + 1) ((List.range xs.length).flatMap cs ++ c)) (hg : w.grownBy w' v.ownBlock) (hat : v'.ownBlock = v.ownBlock ∨ v'.ownBlock = some w.heap.size) :
  SlO e size R w' v' (xs ++ [x]) (fun k => S k ∨ T k ∨ v'.ownBlock = some k) := by
 have hlen : (xs ++ [x]).length = xs.length + 1 := by simp
 have hin : ∀ g, v'.ownBlock = some g → 0 ≤ g ∧ g < w'.heap.size := hown.lt
 have hoff : ∀ k g, (S k ∧ v.ownBlock ≠ some k) ∨ T k → v'.ownBlock = some g → k ≠ g := fun k g hk hg' ek => by
  subst ek
  rcases hat with a | a
  ·rcases hk with ⟨_, b⟩ | b
   ·exact b (a.symm.trans hg')
   ·exact hT k (h.blk k (a.symm.trans hg')) b
  ·have hks : k < w.heap.size := by
    rcases hk with ⟨b, _⟩ | b
    ·exact h.inb k b
    ·exact hTi k b
   rw [a] at hg'
   injection hg' with hg'
   omega
 have hkeep : ∀ k, k < w.heap.size → v.ownBlock ≠ some k → w'.heap[k]? = w.heap[k]? := fun k hk hn => hg.block k hk (fun e1 => hn e1.symm)
 refine ⟨fun m => if m = xs.length then c else cs m, fun m => if m = xs.length then T else U m, ?_, fun m hm => ?_, fun m hm => ?_, fun m hm => ?_, fun m n hm hn hmn => ?_, fun m hm g' hg' => ?_, fun g' hg' => .inr (.inr hg'), fun m hm k hk2 => ?_, ?_⟩
 ·rw [hlen, List.range_succ, List.flatMap_append]
  have e1 : (List.range xs.length).flatMap (fun m => if m = xs.length then c else cs m) = (List.range xs.length).flatMap cs := by
   unfold List.flatMap
   congr 1
   refine List.map_congr_left fun m hm => ?_
   have := List.mem_range.1 hm
   rw [if_neg (by omega)]
  rw [e1]
  simpa using hown
 ·split
  ·exact hl
  ·exact h.len m (by omega)
 ·split
  ·exact h1
  ·exact h.one m (by omega)
 ·by_cases e1 : m = xs.length
  ·subst e1
   simp only [if_true]
   have e2 : (xs ++ [x])[xs.length] = x := by simp
   rw [e2]
   exact hR _ _ _ _ _ hx (fun k hk => hkeep k (hTi k hk) (fun e3 => hT k (h.blk k e3) hk)) hg.size
  ·have hm2 : m < xs.length := by omega
   simp only [if_neg e1, List.getElem_append_left hm2]
   exact hR _ _ _ _ _ (h.el m hm2) (fun k hk => hkeep k (h.inb k (h.sub m hm2 k hk)) (fun e3 => h.off m hm2 k e3 hk)) hg.size
 ·split
  ·next e1 =>
   rw [if_neg (by omega)]
   exact fun k a b => hT k (h.sub n (by omega) k b) a
  ·next e1 =>
   split
   ·exact fun k a b => hT k (h.sub m (by omega) k a) b
   ·exact h.two m n (by omega) (by omega) hmn
 ·split
  ·exact fun a => hoff g' g' (.inr a) hg' rfl
  ·next e1 =>
   intro a
   refine hoff g' g' (.inl ⟨h.sub m (by omega) g' a, fun e3 => h.off m (by omega) g' e3 a⟩) hg' rfl
 ·split at hk2
  ·exact .inr (.inl hk2)
  ·exact .inl (h.sub m (by omega) k hk2)
 ·rintro k (a | a | a)
  ·exact (h.inb.mono hg.size) k a
  ·exact (hTi.mono hg.size) k a
  ·exact (hin k a).2
end
def Snoc {α : Type} (e : TypeId) (size : Nat) (R : ElemO α) (w : World) (xs : List α) (S T : Blks) (v' : Value) (w' : World) : Prop :=
 ∃ S' : Blks, SlO e size R w' v' xs S' ∧ (∀ k, S' k → S k ∨ T k ∨ w.heap.size ≤ k) ∧ Kept S w w'
section
variable {P : Program} {α : Type} {R : ElemO α}
theorem run_append_slo (w : World) (t ty e : TypeId) (i : TypeInfo) (z : Value) (size bytes : Nat) (ht : P.underlying t = some (.slice e)) (hi : P.info? e = some i) (hz : i.zero = some z)
  (hsize : i.size = size) (hby : i.bytes = bytes) (hzs : z.cells.size = size) (hsz : 0 < size) (hR : LocO R) {v : Value} {xs : List α} {S T : Blks} (hO : SlO e size R w v xs S)
  (ad : Addr) (cc : Nat) (c : List Value) (x : α) (hl : c.length = size) (hnews : ∀ j u, c[j]? = some u → w.cell? (ad.add j) = some u) (h1 : ∀ u ∈ c, u.oneCell' = true) (hx : R w c x T) (hT : Apart S T) (hTi : InB w T)
  (h63 : xs.length + 1 ≤ maxLen) (hbytes : (xs.length + 1) * bytes ≤ 140737488355328) :
  ∃ v' w', (Builtin.append_ #[t, t] ty #[v, .slice (some ad) 1 cc]).run P w = .ok v' w' ∧ Snoc e size R w (xs ++ [x]) S T v' w' := by
 obtain ⟨cs, U, h⟩ := hO
 obtain ⟨v', w', hr, h2, h3, _, h5⟩ := run_append_own_at (P := P) w 0 t ty e i z size bytes ht hi hz hsize hby hzs hsz v _ _ h.own ad 1 cc c (by rw [hl, Nat.one_mul]) hnews h1 h63 hbytes (Nat.zero_le _)
 refine ⟨v', w', hr, _, h.snoc hR hx hl h1 hT hTi h2 h3 h5, fun k hk => ?_, Kept.of_grown h3 h.blk⟩
 rcases hk with a | a | a
 ·exact .inl a
 ·exact .inr (.inl a)
 ·rcases h5 with b | b
  ·exact .inl (h.blk k (b.symm.trans a))
  ·rw [b] at a
   injection a with a
   exact .inr (.inr (by omega))
theorem wpList_append_slo (w : World) {ops : Array Oper} {rest : List Oper} {o : Oper} {a : Act} {Q : Exit → Act → World → Prop} (hgd : o.guard = none) (s x : Operand) (t : TypeId)
  (ho : o.op = .call { callee := .builtin .append, args := #[s, x], argTypes := #[t, t] })
  (e : TypeId) (i : TypeInfo) (z : Value) (size bytes : Nat) (ht : P.underlying t = some (.slice e)) (hi : P.info? e = some i) (hz : i.zero = some z)
  (hsize : i.size = size) (hby : i.bytes = bytes) (hzs : z.cells.size = size) (hsz : 0 < size) (hR : LocO R)
  {v : Value} {xs : List α} {S T : Blks} (hs : a.eval s = v) (hO : SlO e size R w v xs S)
  (ad : Addr) (cc : Nat) (c : List Value) (y : α) (hx : a.eval x = .slice (some ad) 1 cc) (hl : c.length = size) (hnews : ∀ j u, c[j]? = some u → w.cell? (ad.add j) = some u) (h1 : ∀ u ∈ c, u.oneCell' = true) (hy : R w c y T) (hT : Apart S T) (hTi : InB w T)
  (h63 : xs.length + 1 ≤ maxLen) (hbytes : (xs.length + 1) * bytes ≤ 140737488355328)
  (h : ∀ v' w', Snoc e size R w (xs ++ [y]) S T v' w' → wpList P ops Q rest (a.put o.dst v') w') :
  wpList P ops Q (o :: rest) a w := by
 refine wpList_plain hgd fun K hK => ?_
 obtain ⟨v', w', hr, h2⟩ := run_append_slo (P := P) w t o.type e i z size bytes ht hi hz hsize hby hzs hsz hR hO ad cc c y hl hnews h1 hy hT hTi h63 hbytes
 unfold Oper.wp execOp
 simp only [ho, resolve, invoke, builtin, Sem.run_bind, Sem.run_pure, Result.andThen_ok, List.map_toArray, List.map_cons, List.map_nil, hs, hx, hr]
 exact hK _ _ (h v' w' h2)
end
theorem cells_new (w : World) (c : List Value) (t : TypeId) {b : Nat} (hb : b = w.heap.size) : ∀ j u, c[j]? = some u → (w.alloc (.cells c.toArray t)).cell? ((⟨b, 0, none⟩ : Addr).add j) = some u := by
 intro j u hj
 subst hb
 rw [addr_add, cell_of_row _ _ j c.toArray t (0, 0) (heap_alloc_new w _)]
 simpa using hj
end Go.Proofs.YtdjamkinijhjoaaDoor
