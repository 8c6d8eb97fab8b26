/-
  Inside a round of a loop over an iterator: a region that draws its order is walked as everywhere.
  Regions that draw their order, operation by operation, under what S says of every world but the last.
  Plain: a list of rows of numbers that a call makes: the outer slice and each row own memory of the call's own.
  Plain: slices in memory of the call's own, with the blocks that they and what lies in them use: taken apart and put back.
-/
import Derived.OrdersHeld
import Derived.OrdersIn
import Derived.Maps.AppendAt
import Derived.Test.YtdjamkinijhjoaaDoorJCalG
import Derived.BigQuiet
import Derived.Deep.QuietTactic
import Derived.Deep.RegionHeld3
import Derived.WalkKit
import Derived.WalkSpells
import Derived.WalkLawsBesides
namespace Go.Proofs.YtdjamkinijhjoaaDoor
open Go.RowKit Go.Shelf

theorem wpOp_one {P : Program} {ops : Array Oper} {Q : Exit → Act → World → Prop} {i : Nat} {o : Oper} {K : Act → World → Prop} {a : Act} {w : World} (ho : ops[i]? = some o) (hg : o.guard = none) (h : o.wp P a w K Q) : wpOp P ops Q i K a w := by
  unfold wpOp
  rw [ho]
  simp only [Region.wanted, hg]
  exact .inl h
section
variable {P : Program} {md : Region.Mode} {ops : Array Oper} {Q : Exit → Act → World → Prop} {S : World → Prop} {z : Nat}
/-- whatever order is picked from here on, and S holds behind every operation but the last one -/
def wpAnyZ (P : Program) (md : Region.Mode) (ops : Array Oper) (Q : Exit → Act → World → Prop) (S : World → Prop) (z : Nat) : Nat → Array Bool → Act → World → Prop
  | 0, listed, a, w => Region.ready md ops listed = [] ∧ Q .normal a w
  | fuel + 1, listed, a, w =>
    (Region.ready md ops listed = [] → Q .normal a w) ∧
    ∀ i ∈ Region.ready md ops listed, wpOp P ops Q i (fun a' w' => (i ≠ z → S w') ∧ wpAnyZ P md ops Q S z fuel (listed.setIfInBounds i true) a' w') a w
theorem wpAny_of_z : ∀ (fuel : Nat) (listed : Array Bool) (a : Act) (w : World), wpAnyZ P md ops Q S z fuel listed a w → wpAny P md ops Q fuel listed a w
  | 0, _, _, _, h => h
  | fuel + 1, _, _, _, h => ⟨h.1, fun i hi => wpOp_mono (fun a' w' h' => wpAny_of_z fuel _ a' w' h'.2) (h.2 i hi)⟩
theorem wpAnyZ_first {i : Nat} {oi oz : Oper} {v : Value} (hi : ops[i]? = some oi) (hz : ops[z]? = some oz) (hiz : i ≠ z) (hw : ∃ e ∈ oz.after, Region.binds md e = true ∧ e.on = i) (hsel : ∀ (j : Nat) (o : Oper) cs b, ops[j]? = some o → o.op ≠ .select cs b)
    (hQ : ∀ c a w, Q (.panic c) (a.put oi.dst v) w → Q (.panic c) a w) :
    ∀ (fuel : Nat) (listed : Array Bool) (a : Act) (w : World),
      (∀ j oj, ops[j]? = some oj → j ≠ i → listed.getD j true = false → (∀ e ∈ oj.after, Region.binds md e = true → e.on ≠ i) → oi.apart ops oj = true) →
      i ∈ Region.ready md ops listed → YieldsIf P ops S oi v a → S w →
      wpAnyZ P md ops Q S z fuel (listed.setIfInBounds i true) (a.put oi.dst v) w → wpAnyZ P md ops Q S z (fuel + 1) listed a w := by
  intro fuel
  induction fuel with
  | zero =>
    intro listed a w _ hr hy hS H
    refine ⟨fun h => (by rw [h] at hr; cases hr), fun j hj => ?_⟩
    by_cases hji : j = i
    · subst hji; exact hy.wpOp hi hS ⟨fun _ => hS, H⟩
    · have := ready_mono hj hji
      rw [H.1] at this
      cases this
  | succ fuel ih =>
    intro listed a w hfree hr hy hS H
    refine ⟨fun h => (by rw [h] at hr; cases hr), fun j hj => ?_⟩
    by_cases hji : j = i
    · subst hji; exact hy.wpOp hi hS ⟨fun _ => hS, H⟩
    · have h1 := H.2 j (ready_mono hj hji)
      obtain ⟨hjun, oj, hoj, hall⟩ := mem_ready.1 hj
      have hnot : ∀ e ∈ oj.after, Region.binds md e = true → e.on ≠ i := fun e he hb heq => by
        have h1 := hall e he hb
        have h0 := (mem_ready.1 hr).1
        rw [heq] at h1
        rcases Nat.lt_or_ge i listed.size with h' | h'
        · simp [h'] at h0 h1; rw [h0] at h1; cases h1
        · simp [Array.getElem?_eq_none h'] at h1
      have hjz : j ≠ z := fun e => by
        subst e
        rw [hoj] at hz
        cases hz
        obtain ⟨e, he, hb, hon⟩ := hw
        exact hnot e he hb hon
      have h2 := wpOp_putIf hoj (hfree j oj hoj hji hjun hnot) (fun cs b => hsel i oi cs b hi) (fun cs b => hsel j oj cs b hoj) hQ hy h1
      have hfree' : ∀ k ok, ops[k]? = some ok → k ≠ i → (listed.setIfInBounds j true).getD k true = false →
          (∀ e ∈ ok.after, Region.binds md e = true → e.on ≠ i) → oi.apart ops ok = true := fun k ok hk hki hun hno => by
        refine hfree k ok hk hki ?_ hno
        by_cases hjk : j = k
        · subst hjk; exact hjun
        · rw [getD_set_ne true hjk] at hun; exact hun
      refine wpOp_mono (fun a' w' h3 => ⟨fun _ => h3.2.1 hjz, ih (listed.setIfInBounds j true) a' w' hfree' (ready_mono hr (Ne.symm hji)) h3.1 (h3.2.1 hjz) ?_⟩) h2
      rw [Array.setIfInBounds_comm _ _ hji]
      exact h3.2.2
/-- the last operation waits for number i -/
def waitsB (md : Region.Mode) (ops : Array Oper) (z i : Nat) : Bool := decide (i ≠ z) && match ops[z]? with | some o => o.after.any fun e => Region.binds md e && e.on == i | none => false
theorem wpAnyZ_take {i : Nat} {oi : Oper} {v : Value} {fuel : Nat} {listed : Array Bool} {a : Act} {w : World} (hi : ops[i]? = some oi) (hw : waitsB md ops z i = true)
    (hs : Region.noSelect ops = true) (hf : Region.free md ops listed i = true) (hr : (Region.ready md ops listed).contains i = true)
    (hQ : ∀ c a w, Q (.panic c) (a.put oi.dst v) w → Q (.panic c) a w) (hy : YieldsIf P ops S oi v a) (hS : S w)
    (h : wpAnyZ P md ops Q S z fuel (listed.setIfInBounds i true) (a.put oi.dst v) w) : wpAnyZ P md ops Q S z (fuel + 1) listed a w := by
  unfold waitsB at hw
  rw [Bool.and_eq_true] at hw
  obtain ⟨h1, h2⟩ := hw
  cases hz : ops[z]? with
  | none => rw [hz] at h2; cases h2
  | some oz =>
    rw [hz] at h2
    simp only [Array.any_eq_true', Bool.and_eq_true, beq_iff_eq] at h2
    obtain ⟨e, he, hb, hon⟩ := h2
    exact wpAnyZ_first hi hz (of_decide_eq_true h1) ⟨e, he, hb, hon⟩ (Region.noSelect_spec hs) hQ fuel listed a w (Region.free_spec hi hf) (by simpa using hr) hy hS h
theorem wpAnyZ_all {rs : List Nat} {fuel : Nat} {listed : Array Bool} {a : Act} {w : World} (hr : Region.ready md ops listed = rs) (hne : rs ≠ [])
    (h : ∀ i ∈ rs, wpOp P ops Q i (fun a' w' => (i ≠ z → S w') ∧ wpAnyZ P md ops Q S z fuel (listed.setIfInBounds i true) a' w') a w) : wpAnyZ P md ops Q S z (fuel + 1) listed a w :=
  ⟨fun h0 => absurd (hr ▸ h0) hne, hr ▸ h⟩
theorem wpAnyZ_done {listed : Array Bool} {a : Act} {w : World} (hr : Region.ready md ops listed = []) (h : Q .normal a w) :
    ∀ fuel, wpAnyZ P md ops Q S z fuel listed a w
  | 0 => ⟨hr, h⟩
  | _ + 1 => ⟨fun _ => h, by rw [hr]; simp⟩
end

/-- the same outside of rounds -/
theorem wp_region_z {P : Program} {id : Nat} {ops : Array Oper} {Q : Exit → Act → World → Prop} {S : World → Prop} {a : Act} {w : World} (hm : P.follows .mixedOrders = true)
    (z : Nat) (h : wpAnyZ P .any ops Q S z ops.size (Array.replicate ops.size false) a w.drew) : (Code.region id ops true).wp P Q a w :=
  wp_region_any hm (wpAny_of_z _ _ _ _ h)
/-- the same post, no panic let through -/
def calm (Q : Exit → Act → World → Prop) : Exit → Act → World → Prop
  | .panic _, _, _ => False
  | e, a, w => Q e a w
theorem wp_region_calm {P : Program} {id : Nat} {ops : Array Oper} {Q : Exit → Act → World → Prop} {S : World → Prop} {a : Act} {w : World} (hm : P.follows .mixedOrders = true)
    (z : Nat) (h : wpAnyZ P .any ops (calm Q) S z ops.size (Array.replicate ops.size false) a w.drew) : (Code.region id ops true).wp P Q a w :=
  Code.wp_mono (Q := calm Q) (fun e a w h => by cases e <;> first | exact h | exact h.elim) (wp_region_z hm z h)
theorem wp_of_run {P : Program} {o : Oper} {a : Act} {w w' : World} {v : Value} {K : Act → World → Prop} {Q : Exit → Act → World → Prop} (h : (execOp a.eval o).run P w = .ok (.value v) w') (hk : K (a.put o.dst v) w') : o.wp P a w K Q := by
  unfold Oper.wp
  rw [h]
  exact hk
theorem wp_of_skip {P : Program} {o : Oper} {a : Act} {w w' : World} {K : Act → World → Prop} {Q : Exit → Act → World → Prop} (h : (execOp a.eval o).run P w = .ok .skip w') (hk : K (a.put o.dst undef) w') : o.wp P a w K Q := by
  unfold Oper.wp
  rw [h]
  exact hk
end Go.Proofs.YtdjamkinijhjoaaDoor
namespace Go.Proofs.YtdjamkinijhjoaaDoor
open Go.RowKit Go.Shelf

section
variable {P : Program} {md : Region.Mode} {ops : Array Oper} {Q : Exit → Act → World → Prop} {S : World → Prop} {z : Nat}
theorem takeZ (i d : Nat) (v : Value) {oi : Oper} {fuel : Nat} {listed : Array Bool} {a : Act} {w : World} (hi : ops[i]? = some oi) (hd : oi.dst = some d) (hw : waitsB md ops z i = true)
    (hs : Region.noSelect ops = true) (hf : Region.free md ops listed i = true) (hr : (Region.ready md ops listed).contains i = true)
    (hQ : ∀ c a w, Q (.panic c) (a.put (some d) v) w → Q (.panic c) a w) (hy : YieldsIf P ops S oi v a) (hS : S w)
    (h : wpAnyZ P md ops Q S z fuel (listed.setIfInBounds i true) (a.put (some d) v) w) : wpAnyZ P md ops Q S z (fuel + 1) listed a w :=
  wpAnyZ_take hi hw hs hf hr (by rw [hd]; exact hQ) hy hS (by rw [hd]; exact h)
theorem stepZ_val {i : Nat} {o : Oper} {fuel : Nat} {listed : Array Bool} {a : Act} {w : World} (v : Value) (w' : World) (ho : ops[i]? = some o) (hg : o.guard = none) (h : (execOp a.eval o).run P w = .ok (.value v) w') (hS : S w')
    (hk : wpAnyZ P md ops Q S z fuel (listed.setIfInBounds i true) (a.put o.dst v) w') : wpOp P ops Q i (fun a' w' => (i ≠ z → S w') ∧ wpAnyZ P md ops Q S z fuel (listed.setIfInBounds i true) a' w') a w :=
  wpOp_one ho hg (wp_of_run h ⟨fun _ => hS, hk⟩)
theorem stepZ_to {i : Nat} {o : Oper} {fuel : Nat} {listed : Array Bool} {a : Act} {w : World} (d : Nat) (v : Value) (w' : World) (ho : ops[i]? = some o) (hd : o.dst = some d) (hg : o.guard = none) (h : (execOp a.eval o).run P w = .ok (.value v) w') (hS : S w')
    (hk : wpAnyZ P md ops Q S z fuel (listed.setIfInBounds i true) (a.put (some d) v) w') : wpOp P ops Q i (fun a' w' => (i ≠ z → S w') ∧ wpAnyZ P md ops Q S z fuel (listed.setIfInBounds i true) a' w') a w :=
  stepZ_val v w' ho hg h hS (by rw [hd]; exact hk)
theorem stepZ_skip {i : Nat} {o : Oper} {fuel : Nat} {listed : Array Bool} {a : Act} {w : World} (w' : World) (ho : ops[i]? = some o) (hg : o.guard = none) (h : (execOp a.eval o).run P w = .ok .skip w') (hS : i ≠ z → S w')
    (hk : wpAnyZ P md ops Q S z fuel (listed.setIfInBounds i true) (a.put o.dst undef) w') : wpOp P ops Q i (fun a' w' => (i ≠ z → S w') ∧ wpAnyZ P md ops Q S z fuel (listed.setIfInBounds i true) a' w') a w :=
  wpOp_one ho hg (wp_of_skip h ⟨hS, hk⟩)
theorem stepZ_call {i : Nat} {o : Oper} {fuel : Nat} {listed : Array Bool} {a : Act} {w : World} {f : FuncId} {args : Array Value} {R : Ending → World → Prop} (ho : ops[i]? = some o) (hg : o.guard = none)
    (h : (execOp a.eval o).run P w = .ok (.enter f args) w) (hc : Calls P f args w R) (hk : ∀ e w', R e w' → ∃ v, e = .returned v ∧ S w' ∧ wpAnyZ P md ops Q S z fuel (listed.setIfInBounds i true) (a.put o.dst v) w') : wpOp P ops Q i (fun a' w' => (i ≠ z → S w') ∧ wpAnyZ P md ops Q S z fuel (listed.setIfInBounds i true) a' w') a w := by
  refine wpOp_one ho hg ?_
  unfold Oper.wp
  rw [h]
  refine hc.mono fun e w' he => ?_
  obtain ⟨v, rfl, h1, h2⟩ := hk e w' he
  exact ⟨fun _ => h1, h2⟩
theorem stepZ_callTo {i : Nat} {o : Oper} {fuel : Nat} {listed : Array Bool} {a : Act} {w : World} {f : FuncId} {args : Array Value} {R : Ending → World → Prop} (d : Nat) (ho : ops[i]? = some o) (hd : o.dst = some d) (hg : o.guard = none)
    (h : (execOp a.eval o).run P w = .ok (.enter f args) w) (hc : Calls P f args w R) (hk : ∀ e w', R e w' → ∃ v, e = .returned v ∧ S w' ∧ wpAnyZ P md ops Q S z fuel (listed.setIfInBounds i true) (a.put (some d) v) w') : wpOp P ops Q i (fun a' w' => (i ≠ z → S w') ∧ wpAnyZ P md ops Q S z fuel (listed.setIfInBounds i true) a' w') a w :=
  stepZ_call ho hg h hc (by rw [hd]; exact hk)
theorem stepZ_skipNo {i : Nat} {o : Oper} {fuel : Nat} {listed : Array Bool} {a : Act} {w : World} (w' : World) (ho : ops[i]? = some o) (hd : o.dst = none) (hg : o.guard = none) (h : (execOp a.eval o).run P w = .ok .skip w') (hS : i ≠ z → S w')
    (hk : wpAnyZ P md ops Q S z fuel (listed.setIfInBounds i true) a w') : wpOp P ops Q i (fun a' w' => (i ≠ z → S w') ∧ wpAnyZ P md ops Q S z fuel (listed.setIfInBounds i true) a' w') a w :=
  stepZ_skip w' ho hg h hS (by rw [hd]; exact hk)
theorem stepZ_1 {i : Nat} {fuel : Nat} {listed : Array Bool} {a : Act} {w : World} (hr : Region.ready md ops listed = [i])
    (h1 : wpOp P ops Q i (fun a' w' => (i ≠ z → S w') ∧ wpAnyZ P md ops Q S z fuel (listed.setIfInBounds i true) a' w') a w) : wpAnyZ P md ops Q S z (fuel + 1) listed a w :=
  wpAnyZ_all hr (by simp) fun m hm => by
    obtain rfl : m = i := by simpa using hm
    exact h1
theorem stepZ_2 {i j : Nat} {fuel : Nat} {listed : Array Bool} {a : Act} {w : World} (hr : Region.ready md ops listed = [i, j])
    (h1 : wpOp P ops Q i (fun a' w' => (i ≠ z → S w') ∧ wpAnyZ P md ops Q S z fuel (listed.setIfInBounds i true) a' w') a w)
    (h2 : wpOp P ops Q j (fun a' w' => (j ≠ z → S w') ∧ wpAnyZ P md ops Q S z fuel (listed.setIfInBounds j true) a' w') a w) : wpAnyZ P md ops Q S z (fuel + 1) listed a w :=
  wpAnyZ_all hr (by simp) fun m hm => by
    rcases List.mem_cons.1 hm with rfl | hm
    · exact h1
    obtain rfl : m = j := by simpa using hm
    exact h2
end

end Go.Proofs.YtdjamkinijhjoaaDoor
namespace Go.Proofs.YtdjamkinijhjoaaDoor
open Go.RowKit

theorem addr_add (g i : Nat) : (⟨g, 0, none⟩ : Addr).add i = ⟨g, i, none⟩ := by unfold Addr.add; split <;> simp_all

theorem ownsRow_base {w : World} {B B' : Nat} {e : TypeId} {size : Nat} {v : Value} {n : Nat} {xs : List Value} (h : w.ownsRow B' e size v n xs) (hb : B ≤ B') : w.ownsRow B e size v n xs := by
  refine ⟨h.1, ?_⟩
  rcases h.2 with h2 | ⟨g, cap, cur, h1, h2, h3⟩
  · exact .inl h2
  · exact .inr ⟨g, cap, cur, h1, by omega, h3⟩
theorem own_slice {w : World} {B : Nat} {e : TypeId} {v : Value} {n : Nat} {xs : List Value} (h : w.ownsRow B e 1 v n xs) : ∃ p c, v = .slice p n c := by
  rcases h.2 with ⟨h1, h2⟩ | ⟨g, cap, cur, h1, _⟩
  · exact ⟨none, 0, by rw [h1, h2]⟩
  · exact ⟨_, _, h1⟩
theorem own_cell {w : World} {B : Nat} {e : TypeId} {p : Option Addr} {n c : Nat} {xs : List Value} (h : w.ownsRow B e 1 (.slice p n c) n xs) {i : Nat} (hi : i < n) : ∃ g, p = some ⟨g, 0, none⟩ ∧ B ≤ g ∧ g < w.heap.size ∧ w.cell? ⟨g, i, none⟩ = xs[i]? := by
  have hl : xs.length = n := by simpa using h.1
  rcases h.2 with ⟨h1, h2⟩ | ⟨g, cap, cur, h1, hb, hh, hr⟩
  · omega
  · cases h1
    refine ⟨g, rfl, hb, (Array.getElem?_eq_some_iff.1 hh).1, ?_⟩
    have := h.cells (g := g) rfl i xs[i] (List.getElem?_eq_getElem _)
    rw [addr_add] at this
    rw [this, List.getElem?_eq_getElem]
theorem ownsRow_below' {w w' : World} {base : Nat} {e : TypeId} {size : Nat} {v : Value} {n : Nat} {xs : List Value} (h : w.ownsRow base e size v n xs) (hb : Below w.heap.size w w') : w'.ownsRow base e size v n xs := by
  refine h.kept (row := none) ⟨hb.os, hb.tape, hb.output, hb.size, fun k hk _ => hb.block k hk⟩ ?_
  cases v.ownBlock with
  | none => exact .inl rfl
  | some k => exact .inr (by simp)
end Go.Proofs.YtdjamkinijhjoaaDoor
namespace Go.Proofs.YtdjamkinijhjoaaDoor
open Go.RowKit

/-- sets of block numbers -/
abbrev Blks := Nat → Prop
def Apart (S T : Blks) : Prop := ∀ k, S k → T k → False
theorem Apart.symm {S T : Blks} (h : Apart S T) : Apart T S := fun k a b => h k b a
theorem Apart.mono {S T S' T' : Blks} (h : Apart S T) (h1 : ∀ k, S' k → S k) (h2 : ∀ k, T' k → T k) : Apart S' T' := fun k a b => h k (h1 k a) (h2 k b)

/-- w' is w but for new blocks and for those of S -/
structure Kept (S : Blks) (w w' : World) : Prop where
  os : w'.os = w.os
  tape : w'.tape = w.tape
  output : w'.output = w.output
  size : w.heap.size ≤ w'.heap.size
  block : ∀ k, k < w.heap.size → ¬ S k → w'.heap[k]? = w.heap[k]?
theorem Kept.refl (S : Blks) (w : World) : Kept S w w := ⟨rfl, rfl, rfl, Nat.le_refl _, fun _ _ _ => rfl⟩
theorem Kept.trans {S S' : Blks} {a b c : World} (h : Kept S a b) (k : Kept S' b c) (hs : ∀ i, i < a.heap.size → S' i → S i) : Kept S a c :=
  ⟨k.os.trans h.os, k.tape.trans h.tape, k.output.trans h.output, Nat.le_trans h.size k.size, fun i hi hn => (k.block i (Nat.lt_of_lt_of_le hi h.size) (fun e => hn (hs i hi e))).trans (h.block i hi hn)⟩
theorem Kept.mono {S S' : Blks} {a b : World} (h : Kept S a b) (hs : ∀ i, i < a.heap.size → S i → S' i) : Kept S' a b :=
  ⟨h.os, h.tape, h.output, h.size, fun i hi hn => h.block i hi (fun e => hn (hs i hi e))⟩
theorem Kept.below {S : Blks} {a b : World} (h : Kept S a b) {B : Nat} (hB : B ≤ a.heap.size) (hs : ∀ i, S i → B ≤ i) : Below B a b :=
  ⟨h.os, h.tape, h.output, h.size, fun k hk => h.block k (by omega) (fun e => by have := hs k e; omega)⟩
theorem Kept.of_below {S : Blks} {a b : World} (h : Below a.heap.size a b) : Kept S a b := ⟨h.os, h.tape, h.output, h.size, fun k hk _ => h.block k hk⟩
theorem Kept.of_grown {S : Blks} {a b : World} {r : Option Nat} (h : a.grownBy b r) (hr : ∀ g, r = some g → S g) : Kept S a b :=
  ⟨h.os, h.tape, h.output, h.size, fun k hk hn => h.block k hk (fun e => hn (hr k e.symm))⟩
theorem Kept.setCell {S : Blks} {a b : World} (h : Kept S a b) {p : Addr} (hp : S p.block) (v : Value) : Kept S a (b.setCell p v) :=
  ⟨h.os, h.tape, h.output, by rw [Go.Deep.nblk_setCell]; exact h.size, fun k hk hn => (Go.Deep.blk_setCell_other b p v k (fun e => hn (by rw [e]; exact hp))).trans (h.block k hk hn)⟩
theorem Kept.alloc {S : Blks} {a b : World} (h : Kept S a b) (o : Obj) : Kept S a (b.alloc o) :=
  ⟨h.os, h.tape, h.output, by have := h.size; simp; omega, fun k hk hn => (Below.heap_alloc b o k (Nat.lt_of_lt_of_le hk h.size)).trans (h.block k hk hn)⟩
theorem Kept.drew {S : Blks} {a b : World} (h : Kept S a b) : Kept S a b.drew := ⟨h.os, h.tape, h.output, h.size, h.block⟩
theorem Kept.cell {S : Blks} {a b : World} (h : Kept S a b) {p : Addr} (hp : p.block < a.heap.size) (hn : ¬ S p.block) : b.cell? p = a.cell? p := World.cell?_of_block (h.block _ hp hn)
theorem Kept.frozen {S : Blks} {a b : World} (h : Kept S a b) {p : Addr} (hp : p.block < a.heap.size) (hn : ¬ S p.block) : b.frozen? p = a.frozen? p := World.frozen?_of_block (h.block _ hp hn)

/-- an element: its cells, what it is, the blocks that it uses -/
abbrev ElemO (α : Type) := World → List Value → α → Blks → Prop
/-- what holds of an element rests on its own blocks alone -/
def LocO {α : Type} (R : ElemO α) : Prop := ∀ w w' cs x S, R w cs x S → (∀ k, S k → w'.heap[k]? = w.heap[k]?) → w.heap.size ≤ w'.heap.size → R w' cs x S
/-- blocks that are there -/
def InB (w : World) (S : Blks) : Prop := ∀ k, S k → k < w.heap.size
theorem InB.mono {w w' : World} {S : Blks} (h : InB w S) (hs : w.heap.size ≤ w'.heap.size) : InB w' S := fun k hk => Nat.lt_of_lt_of_le (h k hk) hs

/-- a slice of the call's own, and its elements, each with its own blocks -/
structure SlW {α : Type} (e : TypeId) (size : Nat) (R : ElemO α) (w : World) (v : Value) (xs : List α) (S : Blks) (cs : Nat → List Value) (T : Nat → Blks) : Prop where
  own : w.ownsRow 0 e size v xs.length ((List.range xs.length).flatMap cs)
  len : ∀ i, i < xs.length → (cs i).length = size
  one : ∀ i, i < xs.length → ∀ u ∈ cs i, u.oneCell' = true
  el : ∀ i (h : i < xs.length), R w (cs i) xs[i] (T i)
  two : ∀ i j, i < xs.length → j < xs.length → i ≠ j → Apart (T i) (T j)
  off : ∀ i, i < xs.length → ∀ g, v.ownBlock = some g → ¬ T i g
  blk : ∀ g, v.ownBlock = some g → S g
  sub : ∀ i, i < xs.length → ∀ k, T i k → S k
  inb : InB w S
def SlO {α : Type} (e : TypeId) (size : Nat) (R : ElemO α) (w : World) (v : Value) (xs : List α) (S : Blks) : Prop := ∃ cs T, SlW e size R w v xs S cs T

section
variable {α : Type} {e : TypeId} {size : Nat} {R : ElemO α} {w w' : World} {v : Value} {xs : List α} {S : Blks}
theorem SlO.nil (e : TypeId) (size : Nat) (R : ElemO α) (w : World) {S : Blks} (h : InB w S) : SlO e size R w (.slice none 0 0) [] S :=
  ⟨fun _ => [], fun _ _ => False, World.ownsRow_nil _ _ _ _, fun i h => (by simp at h), fun i h => (by simp at h), fun i h => (by simp at h), fun i j h => (by simp at h), fun i h => (by simp at h), fun g h => (by cases h), fun i h => (by simp at h), h⟩
theorem SlO.inb (h : SlO e size R w v xs S) : InB w S := by obtain ⟨_, _, h⟩ := h; exact h.inb
theorem SlO.val (h : SlO e size R w v xs S) : ∃ p c, v = .slice p xs.length c ∧ (p = none → xs.length = 0 ∧ c = 0) ∧ xs.length ≤ c := by
  obtain ⟨_, _, h⟩ := h
  rcases h.own.2 with ⟨h1, h2⟩ | ⟨g, cap, cur, h1, _, _, hc, _⟩
  · exact ⟨none, 0, by rw [h1, h2], fun _ => ⟨h2, rfl⟩, by omega⟩
  · exact ⟨_, _, h1, fun e => (by cases e), hc⟩
theorem SlO.loc (hR : LocO R) (h : SlO e size R w v xs S) (hk : ∀ k, S k → w'.heap[k]? = w.heap[k]?) (hs : w.heap.size ≤ w'.heap.size) : SlO e size R w' v xs S := by
  obtain ⟨cs, T, h⟩ := h
  refine ⟨cs, T, ?_, h.len, h.one, fun i hi => hR _ _ _ _ _ (h.el i hi) (fun k hk2 => hk k (h.sub i hi k hk2)) hs, h.two, h.off, h.blk, h.sub, h.inb.mono hs⟩
  refine ⟨h.own.1, ?_⟩
  rcases h.own.2 with h1 | ⟨g, cap, cur, hv, hb, hg, r⟩
  · exact .inl h1
  · exact .inr ⟨g, cap, cur, hv, hb, by rw [hk g (h.blk g (by rw [hv]; rfl))]; exact hg, r⟩
theorem SlO.kept {U : Blks} (hR : LocO R) (h : SlO e size R w v xs S) (hk : Kept U w w') (ha : Apart U S) : SlO e size R w' v xs S :=
  h.loc hR (fun k hs => hk.block k (h.inb k hs) (fun hu => ha k hu hs)) hk.size
theorem SlO.below (hR : LocO R) (h : SlO e size R w v xs S) (hb : Below w.heap.size w w') : SlO e size R w' v xs S := h.kept (U := fun _ => False) hR (Kept.of_below hb) (fun _ h _ => h)
end

theorem flat_len {cs : Nat → List Value} {size : Nat} : ∀ n, (∀ i, i < n → (cs i).length = size) → ((List.range n).flatMap cs).length = n * size
  | 0, _ => by simp
  | n + 1, h => by
    rw [List.range_succ, List.flatMap_append, List.length_append, flat_len n (fun i hi => h i (by omega)), Nat.add_mul]
    simp [h n (by omega)]
theorem flat_get {cs : Nat → List Value} {size : Nat} : ∀ n, (∀ i, i < n → (cs i).length = size) → ∀ i j, i < n → j < size → ((List.range n).flatMap cs)[i * size + j]? = (cs i)[j]?
  | 0, _, i, j, hi, hj => by omega
  | n + 1, h, i, j, hi, hj => by
    have hl := flat_len n (fun i hi => h i (by omega))
    rw [List.range_succ, List.flatMap_append]
    rcases Nat.lt_or_ge i n with g | g
    · have : i * size + j < n * size := by
        have : (i + 1) * size ≤ n * size := Nat.mul_le_mul_right _ g
        rw [Nat.add_mul] at this
        omega
      rw [List.getElem?_append_left (by rw [hl]; exact this), flat_get n (fun i hi => h i (by omega)) i j g hj]
    · obtain rfl : i = n := by omega
      rw [List.getElem?_append_right (by rw [hl]; omega), hl]
      simp
theorem flat_ext {n size : Nat} {cs ds : Nat → List Value} (_h1 : ∀ i, i < n → (cs i).length = size) (h2 : ∀ i, i < n → (ds i).length = size) (hsz : 0 < size) {l : List Value} (hl : l.length = n * size) (h : ∀ i j, i < n → j < size → l[i * size + j]? = (ds i)[j]?) : l = (List.range n).flatMap ds := by
  refine List.ext_getElem? fun k => ?_
  rcases Nat.lt_or_ge k (n * size) with g | g
  · have hi : k / size < n := Nat.div_lt_of_lt_mul (by rw [Nat.mul_comm]; exact g)
    have hj := Nat.mod_lt k hsz
    have e : k = k / size * size + k % size := by rw [Nat.mul_comm]; exact (Nat.div_add_mod k size).symm
    rw [e, flat_get n h2 _ _ hi hj]
    exact h _ _ hi hj
  · rw [List.getElem?_eq_none (by omega), List.getElem?_eq_none (by rw [flat_len n h2]; exact g)]

/-- block g of w' is that of w with the size cells from place o on made cs -/
def RowPut (w w' : World) (e : TypeId) (g o size : Nat) (cs : List Value) : Prop :=
  ∃ cur cur' : Array Value, w.heap[g]? = some (.cells cur e (0, 0)) ∧ w'.heap[g]? = some (.cells cur' e (0, 0)) ∧ cur'.size = cur.size ∧ (∀ j, j < size → cur'[o + j]? = cs[j]?) ∧ ∀ j, (j < o ∨ o + size ≤ j) → cur'[j]? = cur[j]?
theorem RowPut.same {w w' : World} {e : TypeId} {g o size : Nat} {cs : List Value} {cur : Array Value} (h : w.heap[g]? = some (.cells cur e (0, 0))) (h2 : w'.heap[g]? = w.heap[g]?) (hc : ∀ j, j < size → w.cell? ⟨g, o + j, none⟩ = cs[j]?) : RowPut w w' e g o size cs :=
  ⟨cur, cur, h, h2.trans h, rfl, fun j hj => by rw [← hc j hj, cell_of_row w g _ cur e (0, 0) h], fun _ _ => rfl⟩
theorem row_set {w : World} {g : Nat} {cur : Array Value} {e : TypeId} (h : w.heap[g]? = some (.cells cur e (0, 0))) (i : Nat) (v : Value) : (w.setCell ⟨g, i, none⟩ v).heap[g]? = some (.cells (cur.setIfInBounds i v) e (0, 0)) := by
  unfold World.setCell
  rw [Array.getElem?_modify, if_pos rfl, h]
  rfl
theorem RowPut.set {w w' : World} {e : TypeId} {g o size j : Nat} {cs : List Value} (h : RowPut w w' e g o size cs) (hl : cs.length = size) (hj : j < size) (v : Value) : RowPut w (w'.setCell ⟨g, o + j, none⟩ v) e g o size (cs.set j v) := by
  obtain ⟨cur, cur', h1, h2, h3, h4, h5⟩ := h
  refine ⟨cur, cur'.setIfInBounds (o + j) v, h1, row_set h2 _ v, by simpa using h3, fun k hk => ?_, fun k hk => ?_⟩
  · rw [Array.getElem?_setIfInBounds, List.getElem?_set]
    have hlt : o + j < cur'.size := by
      rcases Nat.lt_or_ge (o + j) cur'.size with a | a
      · exact a
      · have := h4 j hj
        rw [Array.getElem?_eq_none a, List.getElem?_eq_getElem (by omega)] at this
        cases this
    by_cases e1 : j = k
    · subst e1
      rw [if_pos rfl, if_pos rfl, if_pos hlt, if_pos (by omega)]
    · rw [if_neg (by omega), if_neg e1]
      exact h4 k hk
  · rw [Array.getElem?_setIfInBounds, if_neg (by omega)]
    exact h5 k hk

section
variable {α : Type} {e : TypeId} {size : Nat} {R : ElemO α} {w : World} {v : Value} {xs : List α} {S : Blks}
/-- an element taken out, and how it is put back -/
theorem SlO.focus (hR : LocO R) (hsz : 0 < size) (h : SlO e size R w v xs S) {i : Nat} (hi : i < xs.length) : ∃ g c cs T, v = .slice (some ⟨g, 0, none⟩) xs.length c ∧ g < w.heap.size ∧ S g ∧ cs.length = size ∧ R w cs xs[i] T ∧ ¬ T g ∧ (∀ k, T k → S k) ∧
    (∀ j, j < size → w.cell? ⟨g, i * size + j, none⟩ = cs[j]?) ∧ (∀ o, w.frozen? ⟨g, o, none⟩ = false) ∧ (∃ cur, w.heap[g]? = some (.cells cur e (0, 0))) ∧
    ∀ (w' : World) (cs' : List Value) (x' : α) (T' : Blks), RowPut w w' e g (i * size) size cs' → cs'.length = size → (∀ u ∈ cs', u.oneCell' = true) → w.heap.size ≤ w'.heap.size → (∀ k, S k → ¬ T k → k ≠ g → w'.heap[k]? = w.heap[k]?) →
      R w' cs' x' T' → (∀ k, T' k → (T k ∨ w.heap.size ≤ k) ∧ k < w'.heap.size) → SlO e size R w' v (xs.set i x') (fun k => S k ∨ T' k) := by
  obtain ⟨cs, T, h⟩ := h
  rcases h.own.2 with ⟨_, h2⟩ | ⟨g, cap, cur, hv, hb, hg, hc1, hc2, hc3, htk⟩
  · omega
  have hgs := (Array.getElem?_eq_some_iff.1 hg).1
  have hcell : ∀ m j, m < xs.length → j < size → cur[m * size + j]? = (cs m)[j]? := fun m j hm hj => by
    have hlt : m * size + j < xs.length * size := by
      have : (m + 1) * size ≤ xs.length * size := Nat.mul_le_mul_right _ hm
      rw [Nat.add_mul] at this
      omega
    rw [← flat_get xs.length h.len m j hm hj, ← htk, List.getElem?_take_of_lt hlt, Array.getElem?_toList]
  have hob : v.ownBlock = some g := by rw [hv]; rfl
  refine ⟨g, cap, cs i, T i, hv, hgs, h.blk g hob, h.len i hi, h.el i hi, h.off i hi g hob, h.sub i hi, fun j hj => ?_, fun o => (blk hg).2 o, ⟨cur, hg⟩, ?_⟩
  · rw [cell_of_row w g _ cur e (0, 0) hg]
    exact hcell i j hi hj
  · rintro w' cs' x' T' ⟨cu, cur', p1, p2, p3, p4, p5⟩ hl' h1' hs hk hR' hT'
    rw [hg] at p1
    cases p1
    have hlen : (xs.set i x').length = xs.length := by simp
    refine ⟨fun m => if m = i then cs' else cs m, fun m => if m = i then T' else T m, ?_, fun m hm => ?_, fun m hm => ?_, fun m hm => ?_, fun m n hm hn hmn => ?_, fun m hm g' hg' => ?_, fun g' hg' => .inl (h.blk g' hg'), fun m hm k hk2 => ?_, ?_⟩
    · rw [hlen]
      have hlc : ∀ m, m < xs.length → (if m = i then cs' else cs m).length = size := fun m hm => by
        split
        · exact hl'
        · exact h.len m hm
      refine ⟨by rw [flat_len _ hlc], .inr ⟨g, cap, cur', hv, hb, p2, hc1, hc2, by rw [p3]; exact hc3, ?_⟩⟩
      have hle : xs.length * size ≤ cap * size := Nat.mul_le_mul_right _ hc1
      refine flat_ext h.len hlc hsz (by simp; omega) fun m j hm hj => ?_
      have hlt : m * size + j < xs.length * size := by
        have : (m + 1) * size ≤ xs.length * size := Nat.mul_le_mul_right _ hm
        rw [Nat.add_mul] at this
        omega
      rw [List.getElem?_take_of_lt hlt, Array.getElem?_toList]
      by_cases e1 : m = i
      · subst e1
        rw [if_pos rfl]
        exact p4 j hj
      · rw [if_neg e1, p5 _ ?_]
        · exact hcell m j hm hj
        · rcases Nat.lt_or_ge m i with a | a
          · left
            have : (m + 1) * size ≤ i * size := Nat.mul_le_mul_right _ a
            rw [Nat.add_mul] at this
            omega
          · right
            have : (i + 1) * size ≤ m * size := Nat.mul_le_mul_right _ (by omega)
            rw [Nat.add_mul] at this
            omega
    · rw [hlen] at hm
      split
      · exact hl'
      · exact h.len m hm
    · rw [hlen] at hm
      split
      · exact h1'
      · exact h.one m hm
    · have hm2 : m < xs.length := by rw [← hlen]; exact hm
      by_cases e1 : m = i
      · subst e1
        simpa using hR'
      · simp only [if_neg e1, List.getElem_set_ne (Ne.symm e1)]
        refine hR _ _ _ _ _ (h.el m hm2) (fun k hk2 => hk k (h.sub m hm2 k hk2) (fun hk3 => h.two m i hm2 hi e1 k hk2 hk3) (fun e2 => h.off m hm2 g hob (by rw [← e2]; exact hk2))) hs
    · rw [hlen] at hm hn
      have key : ∀ m, m < xs.length → m ≠ i → Apart T' (T m) := fun m hm hmi k a b => by
        rcases (hT' k a).1 with c | c
        · exact h.two m i hm hi hmi k b c
        · have := h.inb k (h.sub m hm k b)
          omega
      split
      · next e1 =>
        rw [if_neg (by omega)]
        exact key n hn (by omega)
      · next e1 =>
        split
        · exact (key m hm e1).symm
        · exact h.two m n hm hn hmn
    · rw [hlen] at hm
      rw [hob] at hg'
      cases hg'
      split
      · intro a
        rcases (hT' _ a).1 with c | c
        · exact h.off i hi _ hob c
        · omega
      · exact h.off m hm _ hob
    · rw [hlen] at hm
      split at hk2
      · exact .inr hk2
      · exact .inl (h.sub m hm k hk2)
    · rintro k (a | a)
      · exact (h.inb.mono hs) k a
      · exact (hT' k a).2
/-- an element more: what append leaves -/
theorem SlW.snoc {w' : World} {v' : Value} {c : List Value} {x : α} {T : Blks} {cs : Nat → List Value} {U : Nat → Blks} (hR : LocO R) (h : SlW e size R w v xs S cs U) (hx : R w c x T) (hl : c.length = size) (h1 : ∀ u ∈ c, u.oneCell' = true) (hT : Apart S T) (hTi : InB w T)
    (hown : w'.ownsRow 0 e size v' (xs.length + 1) ((List.range xs.length).flatMap cs ++ c)) (hg : w.grownBy w' v.ownBlock) (hat : v'.ownBlock = v.ownBlock ∨ v'.ownBlock = some w.heap.size) :
    SlO e size R w' v' (xs ++ [x]) (fun k => S k ∨ T k ∨ v'.ownBlock = some k) := by
  have hlen : (xs ++ [x]).length = xs.length + 1 := by simp
  have hin : ∀ g, v'.ownBlock = some g → 0 ≤ g ∧ g < w'.heap.size := hown.lt
  have hoff : ∀ k g, (S k ∧ v.ownBlock ≠ some k) ∨ T k → v'.ownBlock = some g → k ≠ g := fun k g hk hg' ek => by
    subst ek
    rcases hat with a | a
    · rcases hk with ⟨_, b⟩ | b
      · exact b (a.symm.trans hg')
      · exact hT k (h.blk k (a.symm.trans hg')) b
    · have hks : k < w.heap.size := by
        rcases hk with ⟨b, _⟩ | b
        · exact h.inb k b
        · exact hTi k b
      rw [a] at hg'
      injection hg' with hg'
      omega
  have hkeep : ∀ k, k < w.heap.size → v.ownBlock ≠ some k → w'.heap[k]? = w.heap[k]? := fun k hk hn => hg.block k hk (fun e1 => hn e1.symm)
  refine ⟨fun m => if m = xs.length then c else cs m, fun m => if m = xs.length then T else U m, ?_, fun m hm => ?_, fun m hm => ?_, fun m hm => ?_, fun m n hm hn hmn => ?_, fun m hm g' hg' => ?_, fun g' hg' => .inr (.inr hg'), fun m hm k hk2 => ?_, ?_⟩
  · rw [hlen, List.range_succ, List.flatMap_append]
    have e1 : (List.range xs.length).flatMap (fun m => if m = xs.length then c else cs m) = (List.range xs.length).flatMap cs := by
      unfold List.flatMap
      congr 1
      refine List.map_congr_left fun m hm => ?_
      have := List.mem_range.1 hm
      rw [if_neg (by omega)]
    rw [e1]
    simpa using hown
  · split
    · exact hl
    · exact h.len m (by omega)
  · split
    · exact h1
    · exact h.one m (by omega)
  · by_cases e1 : m = xs.length
    · subst e1
      simp only [if_true]
      have e2 : (xs ++ [x])[xs.length] = x := by simp
      rw [e2]
      exact hR _ _ _ _ _ hx (fun k hk => hkeep k (hTi k hk) (fun e3 => hT k (h.blk k e3) hk)) hg.size
    · have hm2 : m < xs.length := by omega
      simp only [if_neg e1, List.getElem_append_left hm2]
      exact hR _ _ _ _ _ (h.el m hm2) (fun k hk => hkeep k (h.inb k (h.sub m hm2 k hk)) (fun e3 => h.off m hm2 k e3 hk)) hg.size
  · split
    · next e1 =>
      rw [if_neg (by omega)]
      exact fun k a b => hT k (h.sub n (by omega) k b) a
    · next e1 =>
      split
      · exact fun k a b => hT k (h.sub m (by omega) k a) b
      · exact h.two m n (by omega) (by omega) hmn
  · split
    · exact fun a => hoff g' g' (.inr a) hg' rfl
    · next e1 =>
      intro a
      refine hoff g' g' (.inl ⟨h.sub m (by omega) g' a, fun e3 => h.off m (by omega) g' e3 a⟩) hg' rfl
  · split at hk2
    · exact .inr (.inl hk2)
    · exact .inl (h.sub m (by omega) k hk2)
  · rintro k (a | a | a)
    · exact (h.inb.mono hg.size) k a
    · exact (hTi.mono hg.size) k a
    · exact (hin k a).2
end
/-- what append of one element leaves -/
def Snoc {α : Type} (e : TypeId) (size : Nat) (R : ElemO α) (w : World) (xs : List α) (S T : Blks) (v' : Value) (w' : World) : Prop :=
  ∃ S' : Blks, SlO e size R w' v' xs S' ∧ (∀ k, S' k → S k ∨ T k ∨ w.heap.size ≤ k) ∧ Kept S w w'
section
variable {P : Program} {α : Type} {R : ElemO α}
theorem run_append_slo (w : World) (t ty e : TypeId) (i : TypeInfo) (z : Value) (size bytes : Nat) (ht : P.underlying t = some (.slice e)) (hi : P.info? e = some i) (hz : i.zero = some z)
    (hsize : i.size = size) (hby : i.bytes = bytes) (hzs : z.cells.size = size) (hsz : 0 < size) (hR : LocO R) {v : Value} {xs : List α} {S T : Blks} (hO : SlO e size R w v xs S)
    (ad : Addr) (cc : Nat) (c : List Value) (x : α) (hl : c.length = size) (hnews : ∀ j u, c[j]? = some u → w.cell? (ad.add j) = some u) (h1 : ∀ u ∈ c, u.oneCell' = true) (hx : R w c x T) (hT : Apart S T) (hTi : InB w T)
    (h63 : xs.length + 1 ≤ maxLen) (hbytes : (xs.length + 1) * bytes ≤ 140737488355328) :
    ∃ v' w', (Builtin.append_ #[t, t] ty #[v, .slice (some ad) 1 cc]).run P w = .ok v' w' ∧ Snoc e size R w (xs ++ [x]) S T v' w' := by
  obtain ⟨cs, U, h⟩ := hO
  obtain ⟨v', w', hr, h2, h3, _, h5⟩ := run_append_own_at (P := P) w 0 t ty e i z size bytes ht hi hz hsize hby hzs hsz v _ _ h.own ad 1 cc c (by rw [hl, Nat.one_mul]) hnews h1 h63 hbytes (Nat.zero_le _)
  refine ⟨v', w', hr, _, h.snoc hR hx hl h1 hT hTi h2 h3 h5, fun k hk => ?_, Kept.of_grown h3 h.blk⟩
  rcases hk with a | a | a
  · exact .inl a
  · exact .inr (.inl a)
  · rcases h5 with b | b
    · exact .inl (h.blk k (b.symm.trans a))
    · rw [b] at a
      injection a with a
      exact .inr (.inr (by omega))
theorem wpList_append_slo (w : World) {ops : Array Oper} {rest : List Oper} {o : Oper} {a : Act} {Q : Exit → Act → World → Prop} (hgd : o.guard = none) (s x : Operand) (t : TypeId)
    (ho : o.op = .call { callee := .builtin .append, args := #[s, x], argTypes := #[t, t] })
    (e : TypeId) (i : TypeInfo) (z : Value) (size bytes : Nat) (ht : P.underlying t = some (.slice e)) (hi : P.info? e = some i) (hz : i.zero = some z)
    (hsize : i.size = size) (hby : i.bytes = bytes) (hzs : z.cells.size = size) (hsz : 0 < size) (hR : LocO R)
    {v : Value} {xs : List α} {S T : Blks} (hs : a.eval s = v) (hO : SlO e size R w v xs S)
    (ad : Addr) (cc : Nat) (c : List Value) (y : α) (hx : a.eval x = .slice (some ad) 1 cc) (hl : c.length = size) (hnews : ∀ j u, c[j]? = some u → w.cell? (ad.add j) = some u) (h1 : ∀ u ∈ c, u.oneCell' = true) (hy : R w c y T) (hT : Apart S T) (hTi : InB w T)
    (h63 : xs.length + 1 ≤ maxLen) (hbytes : (xs.length + 1) * bytes ≤ 140737488355328)
    (h : ∀ v' w', Snoc e size R w (xs ++ [y]) S T v' w' → wpList P ops Q rest (a.put o.dst v') w') :
    wpList P ops Q (o :: rest) a w := by
  refine wpList_plain hgd fun K hK => ?_
  obtain ⟨v', w', hr, h2⟩ := run_append_slo (P := P) w t o.type e i z size bytes ht hi hz hsize hby hzs hsz hR hO ad cc c y hl hnews h1 hy hT hTi h63 hbytes
  unfold Oper.wp execOp
  simp only [ho, resolve, invoke, builtin, Sem.run_bind, Sem.run_pure, Result.andThen_ok, List.map_toArray, List.map_cons, List.map_nil, hs, hx, hr]
  exact hK _ _ (h v' w' h2)
end
/-- the cells of a block just made -/
theorem cells_new (w : World) (c : List Value) (t : TypeId) {b : Nat} (hb : b = w.heap.size) : ∀ j u, c[j]? = some u → (w.alloc (.cells c.toArray t)).cell? ((⟨b, 0, none⟩ : Addr).add j) = some u := by
  intro j u hj
  subst hb
  rw [addr_add, cell_of_row _ _ j c.toArray t (0, 0) (heap_alloc_new w _)]
  simpa using hj
end Go.Proofs.YtdjamkinijhjoaaDoor
