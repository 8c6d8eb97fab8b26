/-
  Plain: the call graph of a unit without faults is the reference's.
The contract of calls.Graph.
The contract of code.Ahead, of a fine unit.
-/
import Derived.Test.YtdjamkinijhjoaaDoorCalI
import Derived.Test.YtdjamkinijhjoaaDoorBCalA
import Derived.Test.YtdjamkinijhjoaaDoorChkS
import Derived.Test.YtdjamkinijhjoaaDoorBPurA
import Derived.WalkKit
import Derived.WalkSpells
import Derived.WalkLawsBesides
import Derived.Test.YtdjamkinijhjoaaDoorRunK
namespace Go.Proofs.YtdjamkinijhjoaaDoor
open Go.RowKit Go.Lib

theorem ext_lt : ∀ {l m : List Int}, l.Pairwise (· < ·) → m.Pairwise (· < ·) → (∀ x, x ∈ l ↔ x ∈ m) → l = m
  | [], [], _, _, _ => rfl
  | [], b :: m, _, _, h => by have := (h b).2 List.mem_cons_self; cases this
  | a :: l, [], _, _, h => by have := (h a).1 List.mem_cons_self; cases this
  | a :: l, b :: m, hl, hm, h => by
    obtain ⟨h1, h2⟩ := List.pairwise_cons.1 hl
    obtain ⟨g1, g2⟩ := List.pairwise_cons.1 hm
    have e : a = b := by
      rcases List.mem_cons.1 ((h a).1 List.mem_cons_self) with e | e
      · exact e
      · rcases List.mem_cons.1 ((h b).2 List.mem_cons_self) with f | f
        · exact f.symm
        · have := h1 b f
          have := g1 a e
          omega
    subst e
    rw [ext_lt h2 g2 (fun x => ?_)]
    constructor
    · intro hx
      rcases List.mem_cons.1 ((h x).1 (List.mem_cons_of_mem _ hx)) with e | e
      · have := h1 x hx
        omega
      · exact e
    · intro hx
      rcases List.mem_cons.1 ((h x).2 (List.mem_cons_of_mem _ hx)) with e | e
      · have := g1 x hx
        omega
      · exact e

theorem compact_spec {d : Array Int} (hd : ∀ i j, i ≤ j → j < d.size → d[i]! ≤ d[j]!) : ∀ m, m ≤ d.size → (compactUpTo d m).Pairwise (· < ·) ∧ (∀ x ∈ compactUpTo d m, ∃ i, i < m ∧ x = d[i]!) ∧ ∀ i, i < m → d[i]! ∈ compactUpTo d m
  | 0, _ => ⟨by simp [compactUpTo], by simp [compactUpTo], by omega⟩
  | m + 1, hm => by
    obtain ⟨h1, h2, h3⟩ := compact_spec hd m (by omega)
    rw [compactUpTo_succ]
    by_cases hk : keeps d m = true
    · rw [if_pos hk]
      refine ⟨List.pairwise_append.2 ⟨h1, List.pairwise_singleton _ _, fun x hx y hy => ?_⟩, fun x hx => ?_, fun i hi => ?_⟩
      · obtain ⟨i, hi, rfl⟩ := h2 x hx
        obtain rfl : y = d[m]! := by simpa using hy
        have a1 := hd i (m - 1) (by omega) (by omega)
        have a2 := hd (m - 1) m (by omega) (by omega)
        unfold keeps at hk
        rcases of_decide_eq_true hk with e | e
        · omega
        · omega
      · rcases List.mem_append.1 hx with hx | hx
        · obtain ⟨i, hi, e⟩ := h2 x hx
          exact ⟨i, by omega, e⟩
        · exact ⟨m, by omega, by simpa using hx⟩
      · by_cases e : i = m
        · subst e; simp
        · exact List.mem_append_left _ (h3 i (by omega))
    · rw [if_neg hk, List.append_nil]
      refine ⟨h1, fun x hx => ?_, fun i hi => ?_⟩
      · obtain ⟨i, hi, e⟩ := h2 x hx
        exact ⟨i, by omega, e⟩
      · by_cases e : i = m
        · subst e
          unfold keeps at hk
          have hk2 : ¬(i = 0 ∨ d[i]! ≠ d[i - 1]!) := fun h => hk (decide_eq_true h)
          have e1 : d[i]! = d[i - 1]! := by
            rcases Decidable.em (d[i]! = d[i - 1]!) with h | h
            · exact h
            · exact absurd (.inr h) hk2
          rw [e1]
          exact h3 (i - 1) (by omega)
        · exact h3 i (by omega)

theorem sortL_mem {l : List Int} {x : Int} : x ∈ sortL l ↔ x ∈ l := by unfold sortL; exact List.mem_mergeSort
theorem sortL_pair (l : List Int) : (sortL l).Pairwise (· ≤ ·) := by
  unfold sortL
  refine (List.pairwise_mergeSort (le := fun x y : Int => decide (x ≤ y)) (fun a b c h1 h2 => ?_) (fun a b => ?_) l).imp fun h => ?_
  · have := of_decide_eq_true h1
    have := of_decide_eq_true h2
    exact decide_eq_true (by omega)
  · simp
    omega
  · exact of_decide_eq_true h
theorem rowS_pair (l : List Int) : (rowS l).Pairwise (· < ·) ∧ ∀ x, x ∈ rowS l ↔ x ∈ l := by
  have hs := sortL_pair l
  have hd : ∀ i j, i ≤ j → j < (sortL l).toArray.size → (sortL l).toArray[i]! ≤ (sortL l).toArray[j]! := by
    intro i j hij hj
    have hj2 : j < (sortL l).length := by simpa using hj
    have hi2 : i < (sortL l).length := by omega
    have e1 : (sortL l).toArray[i]! = (sortL l)[i] := by simp [hi2]
    have e2 : (sortL l).toArray[j]! = (sortL l)[j] := by simp [hj2]
    rw [e1, e2]
    by_cases e : i = j
    · subst e; exact Int.le_refl _
    · exact List.pairwise_iff_getElem.1 hs i j hi2 hj2 (by omega)
  obtain ⟨h1, _, h3⟩ := compact_spec hd (sortL l).length (by simp)
  refine ⟨h1, fun x => ⟨rowS_mem, fun hx => ?_⟩⟩
  obtain ⟨i, hi, rfl⟩ := List.getElem_of_mem (sortL_mem.2 hx)
  have e1 : (sortL l).toArray[i]! = (sortL l)[i] := by simp [hi]
  rw [← e1]
  exact h3 i hi

theorem rowTo_pair (f : FunL) (n : Nat) : (rowTo f n).Pairwise (· < ·) := by
  unfold rowTo
  refine List.pairwise_map.2 ?_
  exact (List.pairwise_lt_range.filter _).imp fun h => by omega
theorem rowTo_iff {f : FunL} {n : Nat} {x : Int} : x ∈ rowTo f n ↔ (0 ≤ x ∧ x < n) ∧ callsB f x = true := by
  unfold rowTo
  constructor
  · intro h
    obtain ⟨i, hi, rfl⟩ := List.mem_map.1 h
    obtain ⟨h1, h2⟩ := List.mem_filter.1 hi
    have := List.mem_range.1 h1
    exact ⟨by omega, h2⟩
  · rintro ⟨⟨h0, h1⟩, h2⟩
    refine List.mem_map.2 ⟨x.toNat, List.mem_filter.2 ⟨List.mem_range.2 (by omega), ?_⟩, by omega⟩
    rw [Int.toNat_of_nonneg h0]
    exact h2
theorem callsB_mem {f : FunL} {x : Int} : callsB f x = true ↔ x ∈ calleesL (allIns f) := by
  unfold callsB calleesL allIns callB
  simp only [List.any_eq_true, Bool.and_eq_true, beq_iff_eq, List.mem_map, List.mem_filter, List.mem_flatMap]
  constructor
  · rintro ⟨b, hb, i, hi, ho, rfl⟩
    exact ⟨i, ⟨⟨b, hb, hi⟩, ho⟩, rfl⟩
  · rintro ⟨i, ⟨⟨b, hb, hi⟩, ho⟩, rfl⟩
    exact ⟨b, hb, i, hi, ho, rfl⟩
theorem rowS_rowTo {f : FunL} {n : Nat} (h : ∀ x ∈ calleesL (allIns f), 0 ≤ x ∧ x < n) : rowS (calleesL (allIns f)) = rowTo f n := by
  obtain ⟨h1, h2⟩ := rowS_pair (calleesL (allIns f))
  refine ext_lt h1 (rowTo_pair f n) fun x => ?_
  rw [h2, rowTo_iff, callsB_mem]
  exact ⟨fun hx => ⟨h x hx, hx⟩, fun hx => hx.2⟩

theorem allIns_len (f : FunL) : (allIns f).length ≤ manyL f := by
  unfold allIns manyL
  induction f.blocks with
  | nil => simp
  | cons b l ih =>
    rw [List.flatMap_cons, List.length_append, List.map_cons, List.sum_cons]
    omega
theorem insE_call {regs : Int} {nf : Nat} {P : Nat → Int} {op dst an bn fn : Int} {ar br : Bool} {L : List (Bool × Int)} (h : insE regs nf P op dst an bn fn ar br L = 0) (ho : op = 20) : 0 ≤ fn ∧ fn < nf := by
  unfold insE at h
  split at h
  · cases h
  split at h
  · cases h
  split at h
  · rename_i hc
    exact absurd h hc.2.2
  have hc := firstE_all h (callE regs nf P (op == 20) fn L) (by simp)
  subst ho
  unfold callE at hc
  split at hc
  · rename_i he
    cases he
  split at hc
  · cases hc
  rename_i hn
  exact Decidable.not_not.1 hn
theorem ChkOk.ins {u : UniL} (h : ChkOk u) {k : Nat} (hk : k < u.funcs.length) : ∀ i ∈ allIns u.funcs[k], insL u u.funcs[k] i = 0 := by
  intro i hi
  have hb := h.body k hk
  unfold bodyI at hb
  rw [List.getElem?_eq_getElem hk] at hb
  simp only at hb
  unfold bodyE at hb
  split at hb
  · obtain ⟨b, hbm, him⟩ := List.mem_flatMap.1 hi
    obtain ⟨j, hj, rfl⟩ := List.getElem_of_mem hbm
    have hbj := firstE_all hb (blkI u u.funcs[k] j) (List.mem_map.2 ⟨j, List.mem_range.2 hj, rfl⟩)
    unfold blkI at hbj
    rw [List.getElem?_eq_getElem hj] at hbj
    simp only at hbj
    unfold blkE at hbj
    split at hbj
    · exact firstE_all hbj _ (List.mem_map.2 ⟨i, him, rfl⟩)
    · rename_i hne
      exact absurd hbj hne
  · rename_i hne
    exact absurd hb hne
theorem ChkOk.callees {u : UniL} (h : ChkOk u) {k : Nat} (hk : k < u.funcs.length) : ∀ x ∈ calleesL (allIns u.funcs[k]), 0 ≤ x ∧ x < (u.funcs.length : Int) := by
  intro x hx
  unfold calleesL at hx
  obtain ⟨i, hi, rfl⟩ := List.mem_map.1 hx
  obtain ⟨h1, h2⟩ := List.mem_filter.1 hi
  exact insE_call (h.ins hk i h1) (by simpa using h2)
theorem ChkOk.graph {u : UniL} (h : ChkOk u) : graphL u.funcs = graphTo u.funcs u.funcs.length := by
  unfold graphL graphTo
  rw [List.take_length]
  apply List.ext_getElem (by simp)
  intro i h1 h2
  have hi : i < u.funcs.length := by simpa using h1
  simp only [List.getElem_map]
  exact rowS_rowTo (h.callees hi)
end Go.Proofs.YtdjamkinijhjoaaDoor
namespace Go.Proofs.YtdjamkinijhjoaaDoor
open Go.RowKit

theorem graph_i64 {u : UniL} (h : ChkOk u) {k : Nat} (hk : k < u.funcs.length) {x : Int} (hx : x ∈ calleesL (allIns u.funcs[k])) : I64 x := by
  have h1 := h.callees hk x hx
  have h2 := h.nf
  unfold I64
  omega
theorem setCell_same {w : World} {b i : Nat} {cs : Array Value} {t : TypeId} {fr : Nat × Nat} {v : Value} (h : w.heap[b]? = some (.cells cs t fr)) (hi : cs[i]? = some v) : w.setCell ⟨b, i, none⟩ v = w := by
  have e : (w.setCell ⟨b, i, none⟩ v).heap = w.heap := by
    apply Array.ext_getElem?
    intro k
    by_cases hk : b = k
    · subst hk
      have hs : cs.setIfInBounds i v = cs := by
        apply Array.ext_getElem?
        intro j
        rw [Array.getElem?_setIfInBounds]
        split
        · rename_i hj
          subst hj
          split
          · exact hi.symm
          · rename_i hl
            rw [Array.getElem?_eq_none (by omega)]
        · rfl
      simp [World.setCell, Array.getElem?_modify, h, hs]
    · simp [World.setCell, Array.getElem?_modify, hk]
  show { w with heap := (w.setCell ⟨b, i, none⟩ v).heap } = w
  rw [e]
set_option maxRecDepth 100000 in
set_option maxHeartbeats 1000000 in
theorem gr_bad (u : UniL) (gp fp : Option Addr) (gc fc : Nat) (w : World) (hgl : u.globals.length * 48 ≤ 140737488351232) (hG : SliceAt w 3 (GloR w) gp u.globals) (hfl : u.funcs.length * 56 ≤ 140737488351232) (hF : SliceAt w 4 (FunR w) fp u.funcs) (hw0 : Ways w) (h : (chk u).1 ≠ 0) :
    Calls Tryd.prog 44 #[.agg #[.slice gp u.globals.length gc, .slice fp u.funcs.length fc]] w fun e w' => e = .returned (.tuple #[.slice none 0 0, .agg #[.int .i64 (chk u).1, .int .i64 (chk u).2]]) ∧ Below w.heap.size w w' := by
  have HG := hidI hG
  have HF := hidI hF
  have HW := hidI hw0
  have hne : ((chk u).1 == 0 && (chk u).2 == 0) = false := by simp [h]
  have hq : ∀ w, (binOp .neq 28 (.agg #[.int .i64 (chk u).1, .int .i64 (chk u).2]) (.agg #[.int .i64 0, .int .i64 0])).run Tryd.prog w = .ok (.bool true) w := fun w => by rw [run_neFault, hne]; rfl
  clear hG hF hw0 h hne
  go_enter Tryd.func44, Tryd.ntmps44
  go_wp2_with fail
  refine (check_any u _ _ _ _ _ hgl ?_ hfl ?_ ?_).mono ?_
  · exact glosMono HG.out (by repeat (first | with_reducible exact Below.refl _ _ | with_reducible exact HB3.out | with_reducible refine Below.drew ?_ | with_reducible refine below_drewN ?_ _ | with_reducible refine Below.setCell ?_ ?_ _ | with_reducible refine Below.alloc ?_ ?_ _ | with_reducible exact HB2.out | with_reducible exact HB1.out | with_reducible refine Below.trans ?_ (Below.mono hb3 ?_) | with_reducible refine Below.trans ?_ (Below.mono hb5 ?_) | with_reducible refine Below.trans ?_ (Below.mono hb4 ?_) | omega | (simp; omega) | simp))
  · exact funsMono HF.out (by repeat (first | with_reducible exact Below.refl _ _ | with_reducible exact HB3.out | with_reducible refine Below.drew ?_ | with_reducible refine below_drewN ?_ _ | with_reducible refine Below.setCell ?_ ?_ _ | with_reducible refine Below.alloc ?_ ?_ _ | with_reducible exact HB2.out | with_reducible exact HB1.out | with_reducible refine Below.trans ?_ (Below.mono hb3 ?_) | with_reducible refine Below.trans ?_ (Below.mono hb5 ?_) | with_reducible refine Below.trans ?_ (Below.mono hb4 ?_) | omega | (simp; omega) | simp))
  · exact HW.out.below (by repeat (first | with_reducible exact Below.refl _ _ | with_reducible exact HB3.out | with_reducible refine Below.drew ?_ | with_reducible refine below_drewN ?_ _ | with_reducible refine Below.setCell ?_ ?_ _ | with_reducible refine Below.alloc ?_ ?_ _ | with_reducible exact HB2.out | with_reducible exact HB1.out | with_reducible refine Below.trans ?_ (Below.mono hb3 ?_) | with_reducible refine Below.trans ?_ (Below.mono hb5 ?_) | with_reducible refine Below.trans ?_ (Below.mono hb4 ?_) | omega | (simp; omega) | simp))
  rintro e w2 ⟨rfl, hb2⟩
  have HB1 : Hid (Below w.heap.size w w2) := Below.trans (by repeat (first | with_reducible exact Below.refl _ _ | with_reducible exact HB3.out | with_reducible refine Below.drew ?_ | with_reducible refine below_drewN ?_ _ | with_reducible refine Below.setCell ?_ ?_ _ | with_reducible refine Below.alloc ?_ ?_ _ | with_reducible exact HB2.out | with_reducible exact HB1.out | with_reducible refine Below.trans ?_ (Below.mono hb3 ?_) | with_reducible refine Below.trans ?_ (Below.mono hb5 ?_) | with_reducible refine Below.trans ?_ (Below.mono hb4 ?_) | omega | (simp; omega) | simp)) (hb2.mono (by simp; omega))
  have hR := heap_below hb2 (k := w.heap.size + 1) (by simp) (heap_at (w := w.alloc (.cells #[.slice gp u.globals.length gc, .slice fp u.funcs.length fc] 25)) (o := .cells #[.int .i64 0, .int .i64 0] 28) (by simp))
  obtain ⟨hcc, hcf⟩ := blk hR
  have hz : w.heap.size + 1 < w2.heap.size := by have := hb2.size; simp at this; omega
  clear hb2
  go_wp2_with fail
  have HX := hidI (res_one_drew hR)
  clear hR
  go_region
  all_goals go_wp2
  all_goals
    refine bodyPost_ret (v := .tuple #[.slice none 0 0, .agg #[.int .i64 (chk u).1, .int .i64 (chk u).2]]) ?_ rfl ⟨rfl, ?_⟩
    · have hx := HX.out
      simp [results, Tryd.results44, go_sem, hx]
    · repeat (first | with_reducible exact Below.refl _ _ | with_reducible exact HB3.out | with_reducible refine Below.drew ?_ | with_reducible refine below_drewN ?_ _ | with_reducible refine Below.setCell ?_ ?_ _ | with_reducible refine Below.alloc ?_ ?_ _ | with_reducible exact HB2.out | with_reducible exact HB1.out | with_reducible refine Below.trans ?_ (Below.mono hb3 ?_) | with_reducible refine Below.trans ?_ (Below.mono hb5 ?_) | with_reducible refine Below.trans ?_ (Below.mono hb4 ?_) | omega | (simp; omega) | simp)

set_option maxRecDepth 100000 in
set_option maxHeartbeats 1000000 in
theorem gr_ok (u : UniL) (gp fp : Option Addr) (gc fc : Nat) (w : World) (hgl : u.globals.length * 48 ≤ 140737488351232) (hG : SliceAt w 3 (GloR w) gp u.globals) (hfl : u.funcs.length * 56 ≤ 140737488351232) (hF : SliceAt w 4 (FunR w) fp u.funcs) (hw0 : Ways w) (h : (chk u).1 = 0) :
    Calls Tryd.prog 44 #[.agg #[.slice gp u.globals.length gc, .slice fp u.funcs.length fc]] w fun e w' => ∃ T, e = .returned (.tuple #[.slice (some ⟨T, 0, none⟩) u.funcs.length u.funcs.length, .agg #[.int .i64 0, .int .i64 0]]) ∧ SliceAt w' 1 (IntsR w') (some ⟨T, 0, none⟩) (graphTo u.funcs u.funcs.length) ∧ Below w.heap.size w w' := by
  have HG := hidI hG
  have HF := hidI hF
  have HW := hidI hw0
  have HK := hidI (chk_ok h).2
  have hne : ((chk u).1 == 0 && (chk u).2 == 0) = true := by rw [(chk_ok h).1]; rfl
  have hq : ∀ w, (binOp .neq 28 (.agg #[.int .i64 (chk u).1, .int .i64 (chk u).2]) (.agg #[.int .i64 0, .int .i64 0])).run Tryd.prog w = .ok (.bool false) w := fun w => by rw [run_neFault, hne]; rfl
  clear hG hF hw0 h hne
  go_enter Tryd.func44, Tryd.ntmps44
  go_wp2_with fail
  refine (check_any u _ _ _ _ _ hgl ?_ hfl ?_ ?_).mono ?_
  · exact glosMono HG.out (by repeat (first | with_reducible exact Below.refl _ _ | with_reducible exact HB3.out | with_reducible refine Below.drew ?_ | with_reducible refine below_drewN ?_ _ | with_reducible refine Below.setCell ?_ ?_ _ | with_reducible refine Below.alloc ?_ ?_ _ | with_reducible exact HB2.out | with_reducible exact HB1.out | with_reducible refine Below.trans ?_ (Below.mono hb3 ?_) | with_reducible refine Below.trans ?_ (Below.mono hb5 ?_) | with_reducible refine Below.trans ?_ (Below.mono hb4 ?_) | omega | (simp; omega) | simp))
  · exact funsMono HF.out (by repeat (first | with_reducible exact Below.refl _ _ | with_reducible exact HB3.out | with_reducible refine Below.drew ?_ | with_reducible refine below_drewN ?_ _ | with_reducible refine Below.setCell ?_ ?_ _ | with_reducible refine Below.alloc ?_ ?_ _ | with_reducible exact HB2.out | with_reducible exact HB1.out | with_reducible refine Below.trans ?_ (Below.mono hb3 ?_) | with_reducible refine Below.trans ?_ (Below.mono hb5 ?_) | with_reducible refine Below.trans ?_ (Below.mono hb4 ?_) | omega | (simp; omega) | simp))
  · exact HW.out.below (by repeat (first | with_reducible exact Below.refl _ _ | with_reducible exact HB3.out | with_reducible refine Below.drew ?_ | with_reducible refine below_drewN ?_ _ | with_reducible refine Below.setCell ?_ ?_ _ | with_reducible refine Below.alloc ?_ ?_ _ | with_reducible exact HB2.out | with_reducible exact HB1.out | with_reducible refine Below.trans ?_ (Below.mono hb3 ?_) | with_reducible refine Below.trans ?_ (Below.mono hb5 ?_) | with_reducible refine Below.trans ?_ (Below.mono hb4 ?_) | omega | (simp; omega) | simp))
  rintro e w2 ⟨rfl, hb2⟩
  have HB1 : Hid (Below w.heap.size w w2) := Below.trans (by repeat (first | with_reducible exact Below.refl _ _ | with_reducible exact HB3.out | with_reducible refine Below.drew ?_ | with_reducible refine below_drewN ?_ _ | with_reducible refine Below.setCell ?_ ?_ _ | with_reducible refine Below.alloc ?_ ?_ _ | with_reducible exact HB2.out | with_reducible exact HB1.out | with_reducible refine Below.trans ?_ (Below.mono hb3 ?_) | with_reducible refine Below.trans ?_ (Below.mono hb5 ?_) | with_reducible refine Below.trans ?_ (Below.mono hb4 ?_) | omega | (simp; omega) | simp)) (hb2.mono (by simp; omega))
  have hR := heap_below hb2 (k := w.heap.size + 1) (by simp) (heap_at (w := w.alloc (.cells #[.slice gp u.globals.length gc, .slice fp u.funcs.length fc] 25)) (o := .cells #[.int .i64 0, .int .i64 0] 28) (by simp))
  obtain ⟨hcc, hcf⟩ := blk hR
  have hz : w.heap.size + 1 < w2.heap.size := by have := hb2.size; simp at this; omega
  have hc0 := fun o => (blk (heap_below hb2 (k := w.heap.size) (by simp; omega) (heap_step (heap_here w _)))).1 o
  have hz2 : w.heap.size < w2.heap.size := by omega
  clear hb2
  have HR := hidI hR
  clear hR
  go_wp2_with (go_at_call 77; refine (graph_any u.funcs _ _ _ _ _ _ HK.out.nf (fun k h => Nat.le_trans (allIns_len _) (HK.out.fn h).2.2.2) (fun k h x hx => graph_i64 HK.out h hx) ?_).mono ?_; (focus (exact funsMono HF.out (by repeat (first | with_reducible exact Below.refl _ _ | with_reducible exact HB3.out | with_reducible refine Below.drew ?_ | with_reducible refine below_drewN ?_ _ | with_reducible refine Below.setCell ?_ ?_ _ | with_reducible refine Below.alloc ?_ ?_ _ | with_reducible exact HB2.out | with_reducible exact HB1.out | with_reducible refine Below.trans ?_ (Below.mono hb3 ?_) | with_reducible refine Below.trans ?_ (Below.mono hb5 ?_) | with_reducible refine Below.trans ?_ (Below.mono hb4 ?_) | omega | (simp; omega) | simp)))); rintro e w3 ⟨T, rfl, hS3, hb3⟩; have hR3 := heap_below hb3 (k := w.heap.size + 1) (by simp; omega) (heap_step HR.out); obtain ⟨hcc3, hcf3⟩ := blk hR3; have hz3 : w.heap.size + 1 < w3.heap.size := (Array.getElem?_eq_some_iff.1 hR3).1)
  rw [setCell_same hR3 rfl, setCell_same hR3 rfl]
  refine bodyPost_ret (v := .tuple #[.slice (some ⟨T, 0, none⟩) u.funcs.length u.funcs.length, .agg #[.int .i64 0, .int .i64 0]]) ?_ rfl ⟨T, rfl, ?_, ?_⟩
  · simp [results, Tryd.results44, go_sem, hcc3]
  · rw [← HK.out.graph]
    exact hS3
  · repeat (first | with_reducible exact Below.refl _ _ | with_reducible exact HB3.out | with_reducible refine Below.drew ?_ | with_reducible refine below_drewN ?_ _ | with_reducible refine Below.setCell ?_ ?_ _ | with_reducible refine Below.alloc ?_ ?_ _ | with_reducible exact HB2.out | with_reducible exact HB1.out | with_reducible refine Below.trans ?_ (Below.mono hb3 ?_) | with_reducible refine Below.trans ?_ (Below.mono hb5 ?_) | with_reducible refine Below.trans ?_ (Below.mono hb4 ?_) | omega | (simp; omega) | simp)
end Go.Proofs.YtdjamkinijhjoaaDoor
namespace Go.Proofs.YtdjamkinijhjoaaDoor
open Go.RowKit

theorem infoInts9 : (Tryd.prog.info? 46).map (fun i => (i.zero, i.size, i.bytes)) = some (some (.slice none 0 0), 1, 24) := by kernel_rfl
set_option maxRecDepth 100000 in
set_option maxHeartbeats 1000000 in
theorem aheadX_ok (u : UniL) (gp fp : Option Addr) (gc fc : Nat) (w : World) (hgl : u.globals.length * 48 ≤ 140737488351232) (hG : SliceAt w 3 (GloR w) gp u.globals) (hfl : u.funcs.length * 56 ≤ 140737488351232) (hF : SliceAt w 4 (FunR w) fp u.funcs) (hw0 : Ways w) (h : (chk u).1 = 0) {k : Nat} (hk : k < u.funcs.length) :
    Calls Tryd.prog 80 #[.agg #[.slice gp u.globals.length gc, .slice fp u.funcs.length fc], .int .i64 k] w fun e w' => ∃ T B f, e = .returned (.tuple #[.slice (some ⟨T, 0, none⟩) (fnU u k).blocks.length (fnU u k).blocks.length, .agg #[.int .i64 0, .int .i64 0]]) ∧ w.heap.size ≤ T ∧ Rows2 w' B T (fnU u k).blocks.length 46 3 (waysL (fnU u k)) f ∧ Below w.heap.size w w' := by
  have HG := hidI hG
  have HF := hidI hF
  have HW := hidI hw0
  have HK := hidI (chk_ok h).2
  have hne : ((chk u).1 == 0 && (chk u).2 == 0) = true := by rw [(chk_ok h).1]; rfl
  have hq : ∀ w, (binOp .neq 28 (.agg #[.int .i64 (chk u).1, .int .i64 (chk u).2]) (.agg #[.int .i64 0, .int .i64 0])).run Tryd.prog w = .ok (.bool false) w := fun w => by rw [run_neFault, hne]; rfl
  have hwt : wthn (k : Int) 0 ((u.funcs.length : Int) - 1) = true := by unfold wthn; simp only [decide_eq_true_eq]; omega
  have HWt := hidI hwt
  have hnf := (chk_ok h).2.nf
  have k0 : (0 : Int) ≤ (k : Int) := by omega
  have k1 : (k : Int) < u.funcs.length := by omega
  clear hG hF hw0 h hne hwt
  go_enter Tryd.func80, Tryd.ntmps80
  go_wp2_with fail
  refine (check_any u _ _ _ _ _ hgl ?_ hfl ?_ ?_).mono ?_
  · exact glosMono HG.out (by repeat (first | with_reducible exact Below.refl _ _ | with_reducible exact HB3.out | with_reducible refine Below.drew ?_ | with_reducible refine below_drewN ?_ _ | with_reducible refine Below.setCell ?_ ?_ _ | with_reducible refine Below.alloc ?_ ?_ _ | with_reducible exact HB2.out | with_reducible exact HB1.out | with_reducible refine Below.trans ?_ (Below.mono hb3 ?_) | with_reducible refine Below.trans ?_ (Below.mono hb5 ?_) | with_reducible refine Below.trans ?_ (Below.mono hb4 ?_) | omega | (simp; omega) | simp))
  · exact funsMono HF.out (by repeat (first | with_reducible exact Below.refl _ _ | with_reducible exact HB3.out | with_reducible refine Below.drew ?_ | with_reducible refine below_drewN ?_ _ | with_reducible refine Below.setCell ?_ ?_ _ | with_reducible refine Below.alloc ?_ ?_ _ | with_reducible exact HB2.out | with_reducible exact HB1.out | with_reducible refine Below.trans ?_ (Below.mono hb3 ?_) | with_reducible refine Below.trans ?_ (Below.mono hb5 ?_) | with_reducible refine Below.trans ?_ (Below.mono hb4 ?_) | omega | (simp; omega) | simp))
  · exact HW.out.below (by repeat (first | with_reducible exact Below.refl _ _ | with_reducible exact HB3.out | with_reducible refine Below.drew ?_ | with_reducible refine below_drewN ?_ _ | with_reducible refine Below.setCell ?_ ?_ _ | with_reducible refine Below.alloc ?_ ?_ _ | with_reducible exact HB2.out | with_reducible exact HB1.out | with_reducible refine Below.trans ?_ (Below.mono hb3 ?_) | with_reducible refine Below.trans ?_ (Below.mono hb5 ?_) | with_reducible refine Below.trans ?_ (Below.mono hb4 ?_) | omega | (simp; omega) | simp))
  rintro e w2 ⟨rfl, hb2⟩
  have HB1 : Hid (Below w.heap.size w w2) := Below.trans (by repeat (first | with_reducible exact Below.refl _ _ | with_reducible exact HB3.out | with_reducible refine Below.drew ?_ | with_reducible refine below_drewN ?_ _ | with_reducible refine Below.setCell ?_ ?_ _ | with_reducible refine Below.alloc ?_ ?_ _ | with_reducible exact HB2.out | with_reducible exact HB1.out | with_reducible refine Below.trans ?_ (Below.mono hb3 ?_) | with_reducible refine Below.trans ?_ (Below.mono hb5 ?_) | with_reducible refine Below.trans ?_ (Below.mono hb4 ?_) | omega | (simp; omega) | simp)) (hb2.mono (by simp; omega))
  have hR := heap_below hb2 (k := w.heap.size + 1) (by simp) (heap_at (w := w.alloc (.cells #[.slice gp u.globals.length gc, .slice fp u.funcs.length fc] 25)) (o := .cells #[.int .i64 0, .int .i64 0] 28) (by simp))
  obtain ⟨hcc, hcf⟩ := blk hR
  have hz : w.heap.size + 1 < w2.heap.size := by have := hb2.size; simp at this; omega
  have hc0 := fun o => (blk (heap_below hb2 (k := w.heap.size) (by simp; omega) (heap_step (heap_here w _)))).1 o
  have c0 := hc0 1
  have hz2 : w.heap.size < w2.heap.size := by omega
  obtain ⟨fb, fo, bp, bc, hfp, e1, e2, e3, e4, _, _, _, hbl, hB⟩ := funGet HF.out HB1.out hk
  subst hfp
  have zf := lt_of_cell e1
  clear hb2 hc0
  have HR := hidI hR
  clear hR
  go_wp2_with fail
  refine (within_any _ _ _ _).mono ?_
  rw [HWt.out]
  rintro e w3 ⟨rfl, rfl⟩
  go_wp2_with fail
  obtain ⟨bb, bo, rfl⟩ : ∃ bb bo, bp = some ⟨bb, bo, none⟩ := by
    rcases hB with h0 | ⟨bb, bo, hp, _⟩
    · have := (HK.out.fn hk).2.2.1.1
      rw [h0] at this
      simp at this
    · exact ⟨bb, bo, hp⟩
  have hz3 : w.heap.size < w2.heap.size := by omega
  have HKB := hidI (HK.out.bodyZ hk)
  have hnb := (HK.out.fn hk).2.2.1.2
  refine (ahead_any _ _ _ _ _ _ _ (tosL u.funcs[k]) _ hnb (fun i hi => blkAt_of hB (by repeat (first | with_reducible exact Below.refl _ _ | with_reducible exact HB3.out | with_reducible refine Below.drew ?_ | with_reducible refine below_drewN ?_ _ | with_reducible refine Below.setCell ?_ ?_ _ | with_reducible refine Below.alloc ?_ ?_ _ | with_reducible exact HB2.out | with_reducible exact HB1.out | with_reducible refine Below.trans ?_ (Below.mono hb3 ?_) | with_reducible refine Below.trans ?_ (Below.mono hb5 ?_) | with_reducible refine Below.trans ?_ (Below.mono hb4 ?_) | omega | (simp; omega) | simp)) i hi) (fun i hi => ?_)).mono ?_
  · rw [tos_getD _ i hi]
    exact endE_zero (bodyE_end HKB.out hi)
  rintro e w3 ⟨⟨F, rfl, hR2⟩, hb3⟩
  have hR3 := heap_below hb3 (k := w.heap.size + 1) (by simp; omega) (heap_step HR.out)
  obtain ⟨hcc3, hcf3⟩ := blk hR3
  have hz4 : w.heap.size + 1 < w3.heap.size := (Array.getElem?_eq_some_iff.1 hR3).1
  have es : (w2.alloc (.cells #[.int .i64 (chk u).1, .int .i64 (chk u).2] 28)).heap.size = w2.heap.size + 1 := by simp
  rw [es] at hR2
  have HR2 := hidI hR2
  have HB3 : Hid (Below w.heap.size w w3) := HB1.out.trans (Below.trans (((Below.refl _ _).alloc (Nat.le_refl _) _).mono HB1.out.size) (hb3.mono (by simp; omega)))
  clear hR2 hb3 hcc hcf hB es
  go_wp2_with fail
  rw [setCell_same hR3 rfl, setCell_same hR3 rfl]
  rw [fnU_get hk]
  refine bodyPost_ret (v := .tuple #[.slice (some ⟨w2.heap.size + 1 + 1, 0, none⟩) u.funcs[k].blocks.length u.funcs[k].blocks.length, .agg #[.int .i64 0, .int .i64 0]]) ?_ rfl ⟨_, _, F, rfl, ?_, HR2.out, HB3.out⟩
  · simp [results, Tryd.results80, go_sem, hcc3]
  · omega
end Go.Proofs.YtdjamkinijhjoaaDoor
