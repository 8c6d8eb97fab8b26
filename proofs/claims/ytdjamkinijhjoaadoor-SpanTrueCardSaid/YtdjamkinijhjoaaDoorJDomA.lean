/-
  Plain: what a unit is whose check tells no fault.
  Plain: a list of rows of numbers that a call makes: the outer slice and each row own memory of the call's own.
  The contract of calls.Each: an iterator over the instructions of a function.
  Plain: a table of rows of numbers in a world; the marks of loops over iterators at a function's end.
  Inside a round of a loop over an iterator: a region that draws its order is walked as everywhere.
  slices.Sort and slices.Compact of a row of numbers that the call itself has built.
  The contract of calls.graph.
  Plain: the call graph of a unit without faults is the reference's.
  The contract of calls.Graph.
  Plain: depth first, what is visited; the unvisited ones, counted.
  Plain: the tree of blocks that rule others, made in rounds: why the rounds end.
-/
import Derived.Test.YtdjamkinijhjoaaDoorChkR
import Derived.Maps.AppendAt
import Derived.BigQuiet
import Derived.Deep.QuietTactic
import Derived.Deep.RegionHeld3
import Derived.WalkKit
import Derived.WalkSpells
import Derived.WalkLawsBesides
import Derived.RangeFuncNested
import Derived.RangeFuncBound
import Derived.RangeFuncCalls
import Derived.RangeFuncLeaves
import Derived.RangeFuncBox
import Derived.Shelf.Abstract
import Derived.Shelf.RegionOpen
import Derived.OwnWalkIn
import Derived.TacticsInMore
import Derived.LoopNIn
import Derived.LoopIn
import Derived.Deep.OwnRows
import Derived.OrdersHeld
import Derived.OrdersIn
import Derived.Lib.OwnBridge
import Derived.Sort.OwnSortedInts
import Derived.Shelf.Sort.Plain
import Derived.Shelf.Slices.CompactI
import Derived.Shelf.Slices.In.SortNone
import Derived.RangeFuncFrom
namespace Go.Proofs.YtdjamkinijhjoaaDoor
open Go.RowKit

structure ChkOk (u : UniL) : Prop where
 ng : u.globals.length ≤ 10
 nf : u.funcs.length ≤ 10
 glo : ∀ j, j < u.globals.length → gloI u j = 0
 head : ∀ j, j < u.funcs.length → headI u j = 0
 body : ∀ j, j < u.funcs.length → bodyI u j = 0
 main : ∃ m, mainI u.funcs = some m ∧ parU u m ≤ 0

theorem firstAt_some {n : Nat} {g : Nat → Int} {r : Int × Int} (h : firstAt n g = some r) : r.1 ≠ 0 := by
 unfold firstAt at h
 rw [Option.map_eq_some_iff] at h
 obtain ⟨i, hi, rfl⟩ := h
 have := List.find?_some hi
 simpa using this

theorem chk_cases (u : UniL) : (chk u = (0, 0) ∧ ChkOk u) ∨ (chk u).1 ≠ 0 := by
 unfold chk chkO
 split
 ·exact .inr (by simp)
 ·rename_i hs
  cases hg : firstAt u.globals.length (gloI u) with
  | some r => exact .inr (by simpa using firstAt_some hg)
  | none =>
   simp only
   cases hh : firstAt u.funcs.length (headI u) with
   | some r => exact .inr (by simpa using firstAt_some hh)
   | none =>
    simp only
    cases hb : firstAt u.funcs.length (bodyI u) with
    | some r => exact .inr (by simpa using firstAt_some hb)
    | none =>
     simp only
     rw [mainAt_eq]
     cases hm : mainI u.funcs with
     | none => exact .inr (by simp)
     | some m =>
      simp only
      split
      ·exact .inr (by simp)
      ·rename_i hp
       exact .inl ⟨rfl, by omega, by omega, firstAt_all hg, firstAt_all hh, firstAt_all hb, m, hm, by omega⟩
theorem chk_ok {u : UniL} (h : (chk u).1 = 0) : chk u = (0, 0) ∧ ChkOk u := (chk_cases u).resolve_right (by simp [h])

theorem gloE_zero {names : List ByteArray} {words : Int} {g : GloL} (h : gloE names words g = 0) : 1 ≤ g.size ∧ g.size ≤ 200 ∧ g.init.length ≤ g.size ∧ words + g.size ≤ 200 := by
 unfold gloE at h
 split at h
 ·cases h
 split at h
 ·cases h
 split at h
 ·cases h
 split at h
 ·cases h
 split at h
 ·cases h
 omega

theorem ChkOk.words {u : UniL} (h : ChkOk u) : ∀ k, k ≤ u.globals.length → 0 ≤ wordsTo u k ∧ wordsTo u k ≤ 200
 | 0, _ => by simp [wordsTo]
 | k + 1, hk => by
  have ih := h.words k (by omega)
  have h1 := gloE_zero ((gloI_eq (by omega)).symm.trans (h.glo k (by omega)))
  rw [wordsTo_succ (by omega)]
  omega
theorem ChkOk.fn {u : UniL} (h : ChkOk u) {k : Nat} (hk : k < u.funcs.length) : (0 ≤ u.funcs[k].params ∧ u.funcs[k].params ≤ 6) ∧ (u.funcs[k].params ≤ u.funcs[k].regs ∧ u.funcs[k].regs ≤ 100) ∧ (1 ≤ u.funcs[k].blocks.length ∧ u.funcs[k].blocks.length ≤ 40) ∧ manyL u.funcs[k] ≤ 300 :=
 headE_zero ((headI_eq hk).symm.trans (h.head k hk))
end Go.Proofs.YtdjamkinijhjoaaDoor
namespace Go.Proofs.YtdjamkinijhjoaaDoor
open Go.RowKit

theorem addr_add (g i : Nat) : (⟨g, 0, none⟩ : Addr).add i = ⟨g, i, none⟩ := by unfold Addr.add; split <;> simp_all

theorem ownsRow_base {w : World} {B B' : Nat} {e : TypeId} {size : Nat} {v : Value} {n : Nat} {xs : List Value} (h : w.ownsRow B' e size v n xs) (hb : B ≤ B') : w.ownsRow B e size v n xs := by
 refine ⟨h.1, ?_⟩
 rcases h.2 with h2 | ⟨g, cap, cur, h1, h2, h3⟩
 ·exact .inl h2
 ·exact .inr ⟨g, cap, cur, h1, by omega, h3⟩
theorem own_slice {w : World} {B : Nat} {e : TypeId} {v : Value} {n : Nat} {xs : List Value} (h : w.ownsRow B e 1 v n xs) : ∃ p c, v = .slice p n c := by
 rcases h.2 with ⟨h1, h2⟩ | ⟨g, cap, cur, h1, _⟩
 ·exact ⟨none, 0, by rw [h1, h2]⟩
 ·exact ⟨_, _, h1⟩
theorem own_cell {w : World} {B : Nat} {e : TypeId} {p : Option Addr} {n c : Nat} {xs : List Value} (h : w.ownsRow B e 1 (.slice p n c) n xs) {i : Nat} (hi : i < n) : ∃ g, p = some ⟨g, 0, none⟩ ∧ B ≤ g ∧ g < w.heap.size ∧ w.cell? ⟨g, i, none⟩ = xs[i]? := by
 have hl : xs.length = n := by simpa using h.1
 rcases h.2 with ⟨h1, h2⟩ | ⟨g, cap, cur, h1, hb, hh, hr⟩
 ·omega
 ·cases h1
  refine ⟨g, rfl, hb, (Array.getElem?_eq_some_iff.1 hh).1, ?_⟩
  have := h.cells (g := g) rfl i xs[i] (List.getElem?_eq_getElem _)
  rw [addr_add] at this
  rw [this, List.getElem?_eq_getElem]
theorem own_ints {w : World} {B : Nat} {e : TypeId} {v : Value} {n : Nat} {xs : List Int} (hl : xs.length = n) (h : w.ownsRow B e 1 v n (xs.map (.int .i64))) (hI : ∀ x ∈ xs, I64 x) : ∃ p c, v = .slice p xs.length c ∧ SliceAt w 1 IntR p xs := by
 obtain ⟨p, c, rfl⟩ := own_slice h
 refine ⟨p, c, by rw [hl], ?_⟩
 rcases Nat.eq_zero_or_pos n with h0 | h0
 ·exact .inl (List.length_eq_zero_iff.1 (hl.trans h0))
 ·obtain ⟨g, rfl, _⟩ := own_cell h h0
  refine .inr ⟨g, 0, rfl, fun i hi => ⟨[.int .i64 xs[i]], rfl, fun j hj => ?_, rfl, hI _ (List.getElem_mem hi)⟩⟩
  obtain rfl : j = 0 := by omega
  obtain ⟨g', hg, _, _, hc⟩ := own_cell h (i := i) (by omega)
  cases hg
  simp only [Nat.zero_add, Nat.mul_one, Nat.add_zero]
  rw [hc]
  simp [hi]

theorem ownsRow_below' {w w' : World} {base : Nat} {e : TypeId} {size : Nat} {v : Value} {n : Nat} {xs : List Value} (h : w.ownsRow base e size v n xs) (hb : Below w.heap.size w w') : w'.ownsRow base e size v n xs := by
 refine h.kept (row := none) ⟨hb.os, hb.tape, hb.output, hb.size, fun k hk _ => hb.block k hk⟩ ?_
 cases v.ownBlock with
 | none => exact .inl rfl
 | some k => exact .inr (by simp)
end Go.Proofs.YtdjamkinijhjoaaDoor
namespace Go.Proofs.YtdjamkinijhjoaaDoor
open Go.RowKit Go.Shelf
attribute [local go_sem] Oper.semAt_some

def allIns (f : FunL) : List InsL := f.blocks.flatMap fun b => b.list
end Go.Proofs.YtdjamkinijhjoaaDoor
namespace Go.Proofs.YtdjamkinijhjoaaDoor
open Go.RowKit Go.Shelf

def marks (Ds : List Nat) : List Deferred := Ds.map fun D => { target := .collected D, args := #[] }
theorem leaves_marks {F : Fence} {n : Nat} {P : Program} {fn : Func} {tmps : Array Value} {R : Ending → World → Prop} (B : Nat) : ∀ (Ds : List Nat) (w : World), Ds.Nodup → (∀ D ∈ Ds, B ≤ D ∧ w.heap[D]? = some (.deferred (some []))) →
  (∀ w', w'.os = w.os → w'.tape = w.tape → w'.output = w.output → w.heap.size ≤ w'.heap.size → (∀ k, k ∉ Ds → w'.heap[k]? = w.heap[k]?) → ∃ v, (results fn tmps).run P w' = .ok v w' ∧ R (.returned v) w') → LeavesInM F n P fn tmps R (marks Ds) .returning w
 | [], w, _, _, h => h w rfl rfl rfl (Nat.le_refl _) (fun _ _ => rfl)
 | D :: Ds, w, hn, hD, h => by
  obtain ⟨hn1, hn2⟩ := List.nodup_cons.1 hn
  refine ⟨by simp, .inl ⟨D, _, rfl, run_takeDeferred (hD D List.mem_cons_self).2, ?_⟩⟩
  refine leaves_marks B Ds _ hn2 (fun E hE => ?_) (fun w' h1 h2 h3 h4 h5 => ?_)
  ·obtain ⟨a, b⟩ := hD E (List.mem_cons_of_mem _ hE)
   exact ⟨a, (World.putObj_heap_other (fun e => hn1 (by rw [← e]; exact hE))).trans b⟩
  ·refine h w' h1 h2 h3 (by simpa using h4) (fun k hk => ?_)
   rw [h5 k (fun hh => hk (List.mem_cons_of_mem _ hh))]
   exact World.putObj_heap_other (fun e => hk (by rw [e]; exact List.mem_cons_self))
end Go.Proofs.YtdjamkinijhjoaaDoor
namespace Go.Proofs.YtdjamkinijhjoaaDoor
open Go.RowKit Go.Shelf

theorem wpOp_one {P : Program} {ops : Array Oper} {Q : Exit → Act → World → Prop} {i : Nat} {o : Oper} {K : Act → World → Prop} {a : Act} {w : World} (ho : ops[i]? = some o) (hg : o.guard = none) (h : o.wp P a w K Q) : wpOp P ops Q i K a w := by
 unfold wpOp
 rw [ho]
 simp only [Region.wanted, hg]
 exact .inl h
section
variable {P : Program} {md : Region.Mode} {ops : Array Oper} {Q : Exit → Act → World → Prop} {S : World → Prop} {z : Nat}
def wpAnyZ (P : Program) (md : Region.Mode) (ops : Array Oper) (Q : Exit → Act → World → Prop) (S : World → Prop) (z : Nat) : Nat → Array Bool → Act → World → Prop
 | 0, listed, a, w => Region.ready md ops listed = [] ∧ Q .normal a w
 | fuel + 1, listed, a, w =>
  (Region.ready md ops listed = [] → Q .normal a w) ∧
  ∀ i ∈ Region.ready md ops listed, wpOp P ops Q i (fun a' w' => (i ≠ z → S w') ∧ wpAnyZ P md ops Q S z fuel (listed.setIfInBounds i true) a' w') a w
theorem wpAny_of_z : ∀ (fuel : Nat) (listed : Array Bool) (a : Act) (w : World), wpAnyZ P md ops Q S z fuel listed a w → wpAny P md ops Q fuel listed a w
 | 0, _, _, _, h => h
 | fuel + 1, _, _, _, h => ⟨h.1, fun i hi => wpOp_mono (fun a' w' h' => wpAny_of_z fuel _ a' w' h'.2) (h.2 i hi)⟩
theorem wpAnyZ_first {i : Nat} {oi oz : Oper} {v : Value} (hi : ops[i]? = some oi) (hz : ops[z]? = some oz) (hiz : i ≠ z) (hw : ∃ e ∈ oz.after, Region.binds md e = true ∧ e.on = i) (hsel : ∀ (j : Nat) (o : Oper) cs b, ops[j]? = some o → o.op ≠ .select cs b)
  (hQ : ∀ c a w, Q (.panic c) (a.put oi.dst v) w → Q (.panic c) a w) :
  ∀ (fuel : Nat) (listed : Array Bool) (a : Act) (w : World),
   (∀ j oj, ops[j]? = some oj → j ≠ i → listed.getD j true = false → (∀ e ∈ oj.after, Region.binds md e = true → e.on ≠ i) → oi.apart ops oj = true) →
   i ∈ Region.ready md ops listed → YieldsIf P ops S oi v a → S w →
   wpAnyZ P md ops Q S z fuel (listed.setIfInBounds i true) (a.put oi.dst v) w → wpAnyZ P md ops Q S z (fuel + 1) listed a w := by
 intro fuel
 induction fuel with
 | zero =>
  intro listed a w _ hr hy hS H
  refine ⟨fun h => (by rw [h] at hr; cases hr), fun j hj => ?_⟩
  by_cases hji : j = i
  ·subst hji; exact hy.wpOp hi hS ⟨fun _ => hS, H⟩
  ·have := ready_mono hj hji
   rw [H.1] at this
   cases this
 | succ fuel ih =>
  intro listed a w hfree hr hy hS H
  refine ⟨fun h => (by rw [h] at hr; cases hr), fun j hj => ?_⟩
  by_cases hji : j = i
  ·subst hji; exact hy.wpOp hi hS ⟨fun _ => hS, H⟩
  ·have h1 := H.2 j (ready_mono hj hji)
   obtain ⟨hjun, oj, hoj, hall⟩ := mem_ready.1 hj
   have hnot : ∀ e ∈ oj.after, Region.binds md e = true → e.on ≠ i := fun e he hb heq => by
    have h1 := hall e he hb
    have h0 := (mem_ready.1 hr).1
    rw [heq] at h1
    rcases Nat.lt_or_ge i listed.size with h' | h'
    ·simp [h'] at h0 h1; rw [h0] at h1; cases h1
    ·simp [Array.getElem?_eq_none h'] at h1
   have hjz : j ≠ z := fun e => by
    subst e
    rw [hoj] at hz
    cases hz
    obtain ⟨e, he, hb, hon⟩ := hw
    exact hnot e he hb hon
   have h2 := wpOp_putIf hoj (hfree j oj hoj hji hjun hnot) (fun cs b => hsel i oi cs b hi) (fun cs b => hsel j oj cs b hoj) hQ hy h1
   have hfree' : ∀ k ok, ops[k]? = some ok → k ≠ i → (listed.setIfInBounds j true).getD k true = false →
     (∀ e ∈ ok.after, Region.binds md e = true → e.on ≠ i) → oi.apart ops ok = true := fun k ok hk hki hun hno => by
    refine hfree k ok hk hki ?_ hno
    by_cases hjk : j = k
    ·subst hjk; exact hjun
    ·rw [getD_set_ne true hjk] at hun; exact hun
   refine wpOp_mono (fun a' w' h3 => ⟨fun _ => h3.2.1 hjz, ih (listed.setIfInBounds j true) a' w' hfree' (ready_mono hr (Ne.symm hji)) h3.1 (h3.2.1 hjz) ?_⟩) h2
   rw [Array.setIfInBounds_comm _ _ hji]
   exact h3.2.2
def waitsB (md : Region.Mode) (ops : Array Oper) (z i : Nat) : Bool := decide (i ≠ z) && match ops[z]? with | some o => o.after.any fun e => Region.binds md e && e.on == i | none => false
theorem wpAnyZ_take {i : Nat} {oi : Oper} {v : Value} {fuel : Nat} {listed : Array Bool} {a : Act} {w : World} (hi : ops[i]? = some oi) (hw : waitsB md ops z i = true)
  (hs : Region.noSelect ops = true) (hf : Region.free md ops listed i = true) (hr : (Region.ready md ops listed).contains i = true)
  (hQ : ∀ c a w, Q (.panic c) (a.put oi.dst v) w → Q (.panic c) a w) (hy : YieldsIf P ops S oi v a) (hS : S w)
  (h : wpAnyZ P md ops Q S z fuel (listed.setIfInBounds i true) (a.put oi.dst v) w) : wpAnyZ P md ops Q S z (fuel + 1) listed a w := by
 unfold waitsB at hw
 rw [Bool.and_eq_true] at hw
 obtain ⟨h1, h2⟩ := hw
 cases hz : ops[z]? with
 | none => rw [hz] at h2; cases h2
 | some oz =>
  rw [hz] at h2
  simp only [Array.any_eq_true', Bool.and_eq_true, beq_iff_eq] at h2
  obtain ⟨e, he, hb, hon⟩ := h2
  exact wpAnyZ_first hi hz (of_decide_eq_true h1) ⟨e, he, hb, hon⟩ (Region.noSelect_spec hs) hQ fuel listed a w (Region.free_spec hi hf) (by simpa using hr) hy hS h
theorem wpAnyZ_all {rs : List Nat} {fuel : Nat} {listed : Array Bool} {a : Act} {w : World} (hr : Region.ready md ops listed = rs) (hne : rs ≠ [])
  (h : ∀ i ∈ rs, wpOp P ops Q i (fun a' w' => (i ≠ z → S w') ∧ wpAnyZ P md ops Q S z fuel (listed.setIfInBounds i true) a' w') a w) : wpAnyZ P md ops Q S z (fuel + 1) listed a w :=
 ⟨fun h0 => absurd (hr ▸ h0) hne, hr ▸ h⟩
theorem wpAnyZ_done {listed : Array Bool} {a : Act} {w : World} (hr : Region.ready md ops listed = []) (h : Q .normal a w) :
  ∀ fuel, wpAnyZ P md ops Q S z fuel listed a w
 | 0 => ⟨hr, h⟩
 | _ + 1 => ⟨fun _ => h, by rw [hr]; simp⟩
end

theorem wp_region_z {P : Program} {id : Nat} {ops : Array Oper} {Q : Exit → Act → World → Prop} {S : World → Prop} {a : Act} {w : World} (hm : P.follows .mixedOrders = true)
  (z : Nat) (h : wpAnyZ P .any ops Q S z ops.size (Array.replicate ops.size false) a w.drew) : (Code.region id ops true).wp P Q a w :=
 wp_region_any hm (wpAny_of_z _ _ _ _ h)
def calm (Q : Exit → Act → World → Prop) : Exit → Act → World → Prop
 | .panic _, _, _ => False
 | e, a, w => Q e a w
theorem wp_region_calm {P : Program} {id : Nat} {ops : Array Oper} {Q : Exit → Act → World → Prop} {S : World → Prop} {a : Act} {w : World} (hm : P.follows .mixedOrders = true)
  (z : Nat) (h : wpAnyZ P .any ops (calm Q) S z ops.size (Array.replicate ops.size false) a w.drew) : (Code.region id ops true).wp P Q a w :=
 Code.wp_mono (Q := calm Q) (fun e a w h => by cases e <;> first | exact h | exact h.elim) (wp_region_z hm z h)
theorem wp_of_run {P : Program} {o : Oper} {a : Act} {w w' : World} {v : Value} {K : Act → World → Prop} {Q : Exit → Act → World → Prop} (h : (execOp a.eval o).run P w = .ok (.value v) w') (hk : K (a.put o.dst v) w') : o.wp P a w K Q := by
 unfold Oper.wp
 rw [h]
 exact hk
theorem wp_of_skip {P : Program} {o : Oper} {a : Act} {w w' : World} {K : Act → World → Prop} {Q : Exit → Act → World → Prop} (h : (execOp a.eval o).run P w = .ok .skip w') (hk : K (a.put o.dst undef) w') : o.wp P a w K Q := by
 unfold Oper.wp
 rw [h]
 exact hk
end Go.Proofs.YtdjamkinijhjoaaDoor
namespace Go.Proofs.YtdjamkinijhjoaaDoor
open Go.RowKit Go.Shelf Go.Lib Go.Sort

theorem putRow_grown {w : World} {g q : Nat} {d : Array Int} : w.grownBy (putRow (Value.int .i64) (Sort.ahead w q) g 0 d) (some g) := by
 refine ⟨rfl, rfl, rfl, by simp [putRow, mapBlock, Sort.ahead], fun k _ hne => ?_⟩
 have : g ≠ k := fun e => hne (by rw [e])
 simp [putRow, mapBlock, Sort.ahead, Array.getElem?_modify, this]
end Go.Proofs.YtdjamkinijhjoaaDoor
namespace Go.Proofs.YtdjamkinijhjoaaDoor
open Go.RowKit Go.Shelf
attribute [local go_sem] Oper.semAt_some

theorem infoInt3 : (Tryd.prog.info? 3).map (fun i => (i.zero, i.size, i.bytes)) = some (some (.int .i64 0), 1, 8) := by kernel_rfl
theorem underInts3 : Tryd.prog.underlying 46 = some (.slice 3) := by kernel_rfl
end Go.Proofs.YtdjamkinijhjoaaDoor
namespace Go.Proofs.YtdjamkinijhjoaaDoor
open Go.RowKit Go.Lib

theorem ChkOk.ins {u : UniL} (h : ChkOk u) {k : Nat} (hk : k < u.funcs.length) : ∀ i ∈ allIns u.funcs[k], insL u u.funcs[k] i = 0 := by
 intro i hi
 have hb := h.body k hk
 unfold bodyI at hb
 rw [List.getElem?_eq_getElem hk] at hb
 simp only at hb
 unfold bodyE at hb
 split at hb
 ·obtain ⟨b, hbm, him⟩ := List.mem_flatMap.1 hi
  obtain ⟨j, hj, rfl⟩ := List.getElem_of_mem hbm
  have hbj := firstE_all hb (blkI u u.funcs[k] j) (List.mem_map.2 ⟨j, List.mem_range.2 hj, rfl⟩)
  unfold blkI at hbj
  rw [List.getElem?_eq_getElem hj] at hbj
  simp only at hbj
  unfold blkE at hbj
  split at hbj
  ·exact firstE_all hbj _ (List.mem_map.2 ⟨i, him, rfl⟩)
  ·rename_i hne
   exact absurd hbj hne
 ·rename_i hne
  exact absurd hb hne
end Go.Proofs.YtdjamkinijhjoaaDoor
namespace Go.Proofs.YtdjamkinijhjoaaDoor
open Go.RowKit

theorem setCell_same {w : World} {b i : Nat} {cs : Array Value} {t : TypeId} {fr : Nat × Nat} {v : Value} (h : w.heap[b]? = some (.cells cs t fr)) (hi : cs[i]? = some v) : w.setCell ⟨b, i, none⟩ v = w := by
 have e : (w.setCell ⟨b, i, none⟩ v).heap = w.heap := by
  apply Array.ext_getElem?
  intro k
  by_cases hk : b = k
  ·subst hk
   have hs : cs.setIfInBounds i v = cs := by
    apply Array.ext_getElem?
    intro j
    rw [Array.getElem?_setIfInBounds]
    split
    ·rename_i hj
     subst hj
     split
     ·exact hi.symm
     ·rename_i hl
      rw [Array.getElem?_eq_none (by omega)]
    ·rfl
   simp [World.setCell, Array.getElem?_modify, h, hs]
  ·simp [World.setCell, Array.getElem?_modify, hk]
 show { w with heap := (w.setCell ⟨b, i, none⟩ v).heap } = w
 rw [e]
end Go.Proofs.YtdjamkinijhjoaaDoor
namespace Go.Proofs.YtdjamkinijhjoaaDoor

def leftN (n : Nat) (had : Nat → Bool) : Nat := ((List.range n).filter fun j => !had j).length
theorem filter_mono {p q : Nat → Bool} : ∀ (l : List Nat), (∀ x ∈ l, p x = true → q x = true) → (l.filter p).length ≤ (l.filter q).length
 | [], _ => by simp
 | a :: l, h => by
  have ih := filter_mono l (fun x hx => h x (List.mem_cons_of_mem _ hx))
  have ha := h a List.mem_cons_self
  by_cases hp : p a = true
  ·rw [List.filter_cons_of_pos hp, List.filter_cons_of_pos (ha hp)]
   simpa using ih
  ·rw [List.filter_cons_of_neg hp]
   by_cases hq : q a = true
   ·rw [List.filter_cons_of_pos hq]; simp; omega
   ·rw [List.filter_cons_of_neg hq]; exact ih
theorem filter_less {p q : Nat → Bool} {k : Nat} : ∀ (l : List Nat), (∀ x ∈ l, p x = true → q x = true) → k ∈ l → p k = false → q k = true → (l.filter p).length < (l.filter q).length
 | [], _, h, _, _ => by cases h
 | a :: l, h, hk, h1, h2 => by
  have ha := h a List.mem_cons_self
  rcases List.mem_cons.1 hk with e | hk2
  ·subst e
   have ih := filter_mono l (fun x hx => h x (List.mem_cons_of_mem _ hx))
   rw [List.filter_cons_of_neg (by simp [h1]), List.filter_cons_of_pos h2]
   simp; omega
  ·have ih := filter_less l (fun x hx => h x (List.mem_cons_of_mem _ hx)) hk2 h1 h2
   by_cases hp : p a = true
   ·rw [List.filter_cons_of_pos hp, List.filter_cons_of_pos (ha hp)]
    simpa using ih
   ·rw [List.filter_cons_of_neg hp]
    by_cases hq : q a = true
    ·rw [List.filter_cons_of_pos hq]; simp; omega
    ·rw [List.filter_cons_of_neg hq]; exact ih
theorem leftN_mono {n : Nat} {p q : Nat → Bool} (h : ∀ j, p j = true → q j = true) : leftN n q ≤ leftN n p :=
 filter_mono _ fun x _ hx => by
  cases hp : p x with
  | false => rfl
  | true => rw [h x hp] at hx; cases hx
theorem leftN_less {n k : Nat} {p q : Nat → Bool} (h : ∀ j, p j = true → q j = true) (hk : k < n) (h1 : p k = false) (h2 : q k = true) : leftN n q < leftN n p := by
 refine filter_less (k := k) _ (fun x _ hx => ?_) (List.mem_range.2 hk) (by simp [h2]) (by simp [h1])
 cases hp : p x with
 | false => rfl
 | true => rw [h x hp] at hx; cases hx

end Go.Proofs.YtdjamkinijhjoaaDoor
namespace Go.Proofs.YtdjamkinijhjoaaDoor

inductive Ch (up : Nat → Nat) : Nat → Nat → Prop where
 | refl (c) : Ch up c c
 | step {c x} : c ≠ 0 → Ch up (up c) x → Ch up c x

structure DomI (R : Nat → Prop) (pl : Nat → Nat) (mk : Nat → Prop) (up : Nat → Nat) : Prop where
 one : ∀ a b, R a → R b → pl a = pl b → a = b
 root : R 0
 rootAt : pl 0 = 0
 mk0 : mk 0
 up0 : up 0 = 0
 reach : ∀ c, mk c → R c
 mkUp : ∀ c, mk c → mk (up c)
 less : ∀ c, mk c → c ≠ 0 → pl (up c) < pl c

section
variable {R : Nat → Prop} {pl : Nat → Nat} {mk : Nat → Prop} {up : Nat → Nat}

theorem DomI.pos (h : DomI R pl mk up) {c : Nat} (hc : R c) (h0 : c ≠ 0) : 0 < pl c := by
 rcases Nat.eq_zero_or_pos (pl c) with e | e
 ·exact absurd (h.one _ _ hc h.root (by rw [e, h.rootAt])) h0
 ·exact e
theorem Ch.trans {a b c : Nat} (h : Ch up a b) (h2 : Ch up b c) : Ch up a c := by
 induction h with
 | refl => exact h2
 | step h0 _ ih => exact .step h0 (ih h2)
theorem DomI.ch (h : DomI R pl mk up) {c x : Nat} (hx : Ch up c x) : mk c → mk x ∧ pl x ≤ pl c := by
 induction hx with
 | refl => intro hc; exact ⟨hc, Nat.le_refl _⟩
 | step h0 _ ih =>
  intro hc
  have h1 := ih (h.mkUp _ hc)
  have h2 := h.less _ hc h0
  exact ⟨h1.1, by omega⟩
theorem DomI.chLess (h : DomI R pl mk up) {c x : Nat} (hc : mk c) (hx : Ch up c x) (hne : x ≠ c) : pl x < pl c := by
 cases hx with
 | refl => exact absurd rfl hne
 | step h0 h1 =>
  have h2 := h.less _ hc h0
  have h3 := (h.ch h1 (h.mkUp _ hc)).2
  omega
theorem DomI.line (h : DomI R pl mk up) {c x y : Nat} (hx : Ch up c x) : mk c → Ch up c y → pl y ≤ pl x → Ch up x y := by
 induction hx with
 | refl => intro _ hy _; exact hy
 | step h0 h1 ih =>
  intro hc hy hl
  cases hy with
  | refl =>
   have h2 := h.less _ hc h0
   have h3 := (h.ch h1 (h.mkUp _ hc)).2
   omega
  | step _ hy => exact ih (h.mkUp _ hc) hy hl
structure Meets (up : Nat → Nat) (a b m : Nat) : Prop where
 left : Ch up a m
 right : Ch up b m
 all : ∀ x, Ch up a x → Ch up b x → Ch up m x

def meetN (up pl : Nat → Nat) : Nat → Nat → Nat → Nat
 | 0, a, _ => a
 | k + 1, a, b => if a = b then a else if pl a < pl b then meetN up pl k (up b) a else meetN up pl k (up a) b

theorem DomI.meet (h : DomI R pl mk up) : ∀ (k a b : Nat), pl a + pl b < k → mk a → mk b → Meets up a b (meetN up pl k a b)
 | 0, _, _, hk, _, _ => by omega
 | k + 1, a, b, hk, ha, hb => by
  unfold meetN
  by_cases e : a = b
  ·subst e
   rw [if_pos rfl]
   exact ⟨.refl _, .refl _, fun x hx _ => hx⟩
  ·have hne : pl a ≠ pl b := fun e2 => e (h.one _ _ (h.reach _ ha) (h.reach _ hb) e2)
   rw [if_neg e]
   by_cases hl : pl a < pl b
   ·have hb0 : b ≠ 0 := fun e0 => by
     rw [e0, h.rootAt] at hl; omega
    have h2 := h.less _ hb hb0
    rw [if_pos hl]
    have ih := h.meet k (up b) a (by omega) (h.mkUp _ hb) ha
    refine ⟨ih.right, .step hb0 ih.left, fun x hx hy => ih.all x ?_ hx⟩
    cases hy with
    | refl => have := (h.ch hx ha).2; omega
    | step _ hy => exact hy
   ·have ha0 : a ≠ 0 := fun e0 => by
     rw [e0, h.rootAt] at hl hne; omega
    have h2 := h.less _ ha ha0
    rw [if_neg hl]
    have ih := h.meet k (up a) b (by omega) (h.mkUp _ ha) hb
    refine ⟨.step ha0 ih.left, ih.right, fun x hx hy => ih.all x ?_ hy⟩
    cases hx with
    | refl => have := (h.ch hy hb).2; omega
    | step _ hx => exact hx

def putUp (up : Nat → Nat) (c m : Nat) (a : Nat) : Nat := if a = c then m else up a
theorem putUp_self {c m : Nat} : putUp up c m c = m := by simp [putUp]
theorem putUp_other {c m a : Nat} (h : a ≠ c) : putUp up c m a = up a := by simp [putUp, h]

structure DomJ (R : Nat → Prop) (pl : Nat → Nat) (ins : Nat → List Nat) (par : Nat → Nat) (j : Nat) (mk : Nat → Prop) (up : Nat → Nat) : Prop extends DomI R pl mk up where
 parIn : ∀ c, R c → c ≠ 0 → par c ∈ ins c ∧ R (par c) ∧ pl (par c) < pl c
 down : ∀ c d, mk c → R d → pl d ≤ pl c → mk d
 past : ∀ d, R d → pl d < j → mk d
 two : ∀ c, mk c → c ≠ 0 → ∀ x, (∀ p ∈ ins c, mk p → Ch up p x) → pl x ≤ pl (up c)
 calm : ∀ c, mk c → c ≠ 0 → (j ≤ pl (up c) ∨ pl c < j) → Ch up (par c) (up c)
 busy : ∀ c, mk c → c ≠ 0 → pl (up c) < j → j ≤ pl c → ∀ x, Ch up (par c) x → pl x ≤ pl (up c) → Ch up (up c) x

structure BestOf (ins : Nat → List Nat) (mk : Nat → Prop) (up : Nat → Nat) (c m : Nat) : Prop where
 on : ∀ p ∈ ins c, mk p → Ch up p m
 all : ∀ x, (∀ p ∈ ins c, mk p → Ch up p x) → Ch up m x

variable {ins : Nat → List Nat} {par : Nat → Nat} {j : Nat}

theorem DomJ.rise (h : DomJ R pl ins par j mk up) {c m : Nat} (hj : pl c = j) (h0 : c ≠ 0) (hb : BestOf ins mk up c m) (hc : mk c) : Ch up (up c) m := by
 have hl := h.less _ hc h0
 obtain ⟨h1, h2, h3⟩ := h.parIn c (h.reach _ hc) h0
 have hp : mk (par c) := h.past _ h2 (by omega)
 exact h.busy c hc h0 (by omega) (by omega) m (hb.on _ h1 hp) (h.two c hc h0 m hb.on)

theorem DomJ.turn (h : DomJ R pl ins par j mk up) {c m : Nat} (hR : R c) (hj : pl c = j) (h0 : c ≠ 0) (hb : BestOf ins mk up c m) :
  DomJ R pl ins par (j + 1) (fun a => a = c ∨ mk a) (putUp up c m) := by
 obtain ⟨q1, q2, q3⟩ := h.parIn c hR h0
 have hp : mk (par c) := h.past _ q2 (by omega)
 have hm := h.ch (hb.on _ q1 hp) hp
 -- ways up only shrink
 have shrink : ∀ a x, Ch (putUp up c m) a x → mk a → Ch up a x := by
  intro a x hx
  induction hx with
  | refl => intro _; exact .refl _
  | @step a x ha0 _ ih =>
   intro ha
   by_cases e : a = c
   ·subst e
    rw [putUp_self] at ih
    exact .step ha0 ((h.rise hj h0 hb ha).trans (ih hm.1))
   ·rw [putUp_other e] at ih
    exact .step ha0 (ih (h.mkUp _ ha))
 have keep : ∀ a x, Ch up a x → mk a → (pl c ≤ pl x ∨ pl a < pl c) → Ch (putUp up c m) a x := by
  intro a x hx
  induction hx with
  | refl => intro _ _; exact .refl _
  | @step a x ha0 hx ih =>
   intro ha hor
   have h1 := h.less _ ha ha0
   have h2 := (h.ch hx (h.mkUp _ ha)).2
   have e : a ≠ c := fun e => by subst e; omega
   refine .step ha0 ?_
   rw [putUp_other e]
   exact ih (h.mkUp _ ha) (by omega)
 have base : DomI R pl (fun a => a = c ∨ mk a) (putUp up c m) := {
  one := h.one, root := h.root, rootAt := h.rootAt, mk0 := .inr h.mk0
  up0 := by rw [putUp_other (Ne.symm h0)]; exact h.up0
  reach := fun a ha => by
   rcases ha with e | ha
   ·rw [e]; exact hR
   ·exact h.reach _ ha
  mkUp := fun a ha => by
   by_cases e : a = c
   ·rw [e, putUp_self]; exact .inr hm.1
   ·rw [putUp_other e]
    exact .inr (h.mkUp _ (ha.resolve_left e))
  less := fun a ha ha0 => by
   by_cases e : a = c
   ·rw [e, putUp_self]; omega
   ·rw [putUp_other e]
    exact h.less _ (ha.resolve_left e) ha0 }
 refine { base with parIn := h.parIn, down := ?_, past := ?_, two := ?_, calm := ?_, busy := ?_ }
 ·intro a d ha hd hl
  rcases ha with e | ha
  ·subst e
   by_cases e : d = a
   ·exact .inl e
   ·have : pl d ≠ pl a := fun e2 => e (h.one _ _ hd hR e2)
    exact .inr (h.past _ hd (by omega))
  ·exact .inr (h.down _ _ ha hd hl)
 ·intro d hd hl
  by_cases e : d = c
  ·exact .inl e
  ·have : pl d ≠ pl c := fun e2 => e (h.one _ _ hd hR e2)
   exact .inr (h.past _ hd (by omega))
 ·intro a ha ha0 x hx
  have hx2 : ∀ p ∈ ins a, mk p → Ch up p x := fun p hp hmp => shrink _ _ (hx p hp (.inr hmp)) hmp
  by_cases e : a = c
  ·subst e
   rw [putUp_self]
   exact (h.ch (hb.all x hx2) hm.1).2
  ·rw [putUp_other e]
   exact h.two a (ha.resolve_left e) ha0 x hx2
 ·intro a ha ha0 hor
  by_cases e : a = c
  ·subst e
   rw [putUp_self]
   exact keep _ _ (hb.on _ q1 hp) hp (.inr q3)
  ·have ha := ha.resolve_left e
   rw [putUp_other e] at hor ⊢
   have hne : pl a ≠ pl c := fun e2 => e (h.one _ _ (h.reach _ ha) hR e2)
   obtain ⟨r1, r2, r3⟩ := h.parIn a (h.reach _ ha) ha0
   have hmp : mk (par a) := h.down _ _ ha r2 (by omega)
   exact keep _ _ (h.calm a ha ha0 (by omega)) hmp (by omega)
 ·intro a ha ha0 h1 h2 x hx hl
  by_cases e : a = c
  ·subst e; omega
  ·have ha := ha.resolve_left e
   rw [putUp_other e] at h1 hl ⊢
   obtain ⟨r1, r2, r3⟩ := h.parIn a (h.reach _ ha) ha0
   have hmp : mk (par a) := h.down _ _ ha r2 (by omega)
   have hmu := h.mkUp _ ha
   by_cases hv : pl (up a) < j
   ·exact keep _ _ (h.busy a ha ha0 hv (by omega) x (shrink _ _ hx hmp) hl) hmu (by omega)
   ·exact base.line (keep _ _ (h.calm a ha ha0 (by omega)) hmp (by omega)) (.inr hmp) hx hl

theorem DomJ.wrap {n : Nat} (h : DomJ R pl ins par n mk up) (hn : ∀ c, R c → pl c < n) : DomJ R pl ins par 1 mk up := by
 refine { h with past := fun d hd _ => h.past _ hd (hn _ hd), calm := ?_, busy := ?_ }
 ·intro c hc h0 _
  exact h.calm c hc h0 (.inr (hn _ (h.reach _ hc)))
 ·intro c hc h0 h1 _ x hx hl
  obtain ⟨r1, r2, r3⟩ := h.parIn c (h.reach _ hc) h0
  have hmp : mk (par c) := h.down _ _ hc r2 (by omega)
  have hmx := (h.ch hx hmp).1
  have e1 : up c = x := h.one _ _ (h.reach _ (h.mkUp _ hc)) (h.reach _ hmx) (by omega)
  rw [e1]; exact .refl _

theorem DomJ.start (one : ∀ a b, R a → R b → pl a = pl b → a = b) (root : R 0) (rootAt : pl 0 = 0) (hpar : ∀ c, R c → c ≠ 0 → par c ∈ ins c ∧ R (par c) ∧ pl (par c) < pl c) (hu : up 0 = 0) :
  DomJ R pl ins par 1 (fun a => a = 0) up where
 one := one
 root := root
 rootAt := rootAt
 mk0 := rfl
 up0 := hu
 reach := fun c hc => by rw [hc]; exact root
 mkUp := fun c hc => by rw [hc]; exact hu
 less := fun c hc h0 => absurd hc h0
 parIn := hpar
 down := fun c d hc hd hl => one _ _ hd root (by rw [hc] at hl; omega)
 past := fun d hd hl => one _ _ hd root (by omega)
 two := fun c hc h0 => absurd hc h0
 calm := fun c hc h0 => absurd hc h0
 busy := fun c hc h0 => absurd hc h0
end
end Go.Proofs.YtdjamkinijhjoaaDoor
