/-
  Plain: the call graph of a unit without faults is the reference's.
-/
import Derived.Test.YteckkdmgkikeaaaDoorCalI
import Derived.Test.YteckkdmgkikeaaaDoorCalD
import Derived.Test.YteckkdmgkikeaaaDoorChkS
namespace Go.Proofs.YteckkdmgkikeaaaDoor
open Go.RowKit Go.Lib

theorem ext_lt : ∀ {l m : List Int}, l.Pairwise (· < ·) → m.Pairwise (· < ·) → (∀ x, x ∈ l ↔ x ∈ m) → l = m
  | [], [], _, _, _ => rfl
  | [], b :: m, _, _, h => by have := (h b).2 List.mem_cons_self; cases this
  | a :: l, [], _, _, h => by have := (h a).1 List.mem_cons_self; cases this
  | a :: l, b :: m, hl, hm, h => by
    obtain ⟨h1, h2⟩ := List.pairwise_cons.1 hl
    obtain ⟨g1, g2⟩ := List.pairwise_cons.1 hm
    have e : a = b := by
      rcases List.mem_cons.1 ((h a).1 List.mem_cons_self) with e | e
      · exact e
      · rcases List.mem_cons.1 ((h b).2 List.mem_cons_self) with f | f
        · exact f.symm
        · have := h1 b f
          have := g1 a e
          omega
    subst e
    rw [ext_lt h2 g2 (fun x => ?_)]
    constructor
    · intro hx
      rcases List.mem_cons.1 ((h x).1 (List.mem_cons_of_mem _ hx)) with e | e
      · have := h1 x hx
        omega
      · exact e
    · intro hx
      rcases List.mem_cons.1 ((h x).2 (List.mem_cons_of_mem _ hx)) with e | e
      · have := g1 x hx
        omega
      · exact e

theorem compact_spec {d : Array Int} (hd : ∀ i j, i ≤ j → j < d.size → d[i]! ≤ d[j]!) : ∀ m, m ≤ d.size → (compactUpTo d m).Pairwise (· < ·) ∧ (∀ x ∈ compactUpTo d m, ∃ i, i < m ∧ x = d[i]!) ∧ ∀ i, i < m → d[i]! ∈ compactUpTo d m
  | 0, _ => ⟨by simp [compactUpTo], by simp [compactUpTo], by omega⟩
  | m + 1, hm => by
    obtain ⟨h1, h2, h3⟩ := compact_spec hd m (by omega)
    rw [compactUpTo_succ]
    by_cases hk : keeps d m = true
    · rw [if_pos hk]
      refine ⟨List.pairwise_append.2 ⟨h1, List.pairwise_singleton _ _, fun x hx y hy => ?_⟩, fun x hx => ?_, fun i hi => ?_⟩
      · obtain ⟨i, hi, rfl⟩ := h2 x hx
        obtain rfl : y = d[m]! := by simpa using hy
        have a1 := hd i (m - 1) (by omega) (by omega)
        have a2 := hd (m - 1) m (by omega) (by omega)
        unfold keeps at hk
        rcases of_decide_eq_true hk with e | e
        · omega
        · omega
      · rcases List.mem_append.1 hx with hx | hx
        · obtain ⟨i, hi, e⟩ := h2 x hx
          exact ⟨i, by omega, e⟩
        · exact ⟨m, by omega, by simpa using hx⟩
      · by_cases e : i = m
        · subst e; simp
        · exact List.mem_append_left _ (h3 i (by omega))
    · rw [if_neg hk, List.append_nil]
      refine ⟨h1, fun x hx => ?_, fun i hi => ?_⟩
      · obtain ⟨i, hi, e⟩ := h2 x hx
        exact ⟨i, by omega, e⟩
      · by_cases e : i = m
        · subst e
          unfold keeps at hk
          have hk2 : ¬(i = 0 ∨ d[i]! ≠ d[i - 1]!) := fun h => hk (decide_eq_true h)
          have e1 : d[i]! = d[i - 1]! := by
            rcases Decidable.em (d[i]! = d[i - 1]!) with h | h
            · exact h
            · exact absurd (.inr h) hk2
          rw [e1]
          exact h3 (i - 1) (by omega)
        · exact h3 i (by omega)

theorem sortL_mem {l : List Int} {x : Int} : x ∈ sortL l ↔ x ∈ l := by unfold sortL; exact List.mem_mergeSort
theorem sortL_pair (l : List Int) : (sortL l).Pairwise (· ≤ ·) := by
  unfold sortL
  refine (List.pairwise_mergeSort (le := fun x y : Int => decide (x ≤ y)) (fun a b c h1 h2 => ?_) (fun a b => ?_) l).imp fun h => ?_
  · have := of_decide_eq_true h1
    have := of_decide_eq_true h2
    exact decide_eq_true (by omega)
  · simp
    omega
  · exact of_decide_eq_true h
theorem rowS_pair (l : List Int) : (rowS l).Pairwise (· < ·) ∧ ∀ x, x ∈ rowS l ↔ x ∈ l := by
  have hs := sortL_pair l
  have hd : ∀ i j, i ≤ j → j < (sortL l).toArray.size → (sortL l).toArray[i]! ≤ (sortL l).toArray[j]! := by
    intro i j hij hj
    have hj2 : j < (sortL l).length := by simpa using hj
    have hi2 : i < (sortL l).length := by omega
    have e1 : (sortL l).toArray[i]! = (sortL l)[i] := by simp [hi2]
    have e2 : (sortL l).toArray[j]! = (sortL l)[j] := by simp [hj2]
    rw [e1, e2]
    by_cases e : i = j
    · subst e; exact Int.le_refl _
    · exact List.pairwise_iff_getElem.1 hs i j hi2 hj2 (by omega)
  obtain ⟨h1, _, h3⟩ := compact_spec hd (sortL l).length (by simp)
  refine ⟨h1, fun x => ⟨rowS_mem, fun hx => ?_⟩⟩
  obtain ⟨i, hi, rfl⟩ := List.getElem_of_mem (sortL_mem.2 hx)
  have e1 : (sortL l).toArray[i]! = (sortL l)[i] := by simp [hi]
  rw [← e1]
  exact h3 i hi

theorem rowTo_pair (f : FunL) (n : Nat) : (rowTo f n).Pairwise (· < ·) := by
  unfold rowTo
  refine List.pairwise_map.2 ?_
  exact (List.pairwise_lt_range.filter _).imp fun h => by omega
theorem rowTo_iff {f : FunL} {n : Nat} {x : Int} : x ∈ rowTo f n ↔ (0 ≤ x ∧ x < n) ∧ callsB f x = true := by
  unfold rowTo
  constructor
  · intro h
    obtain ⟨i, hi, rfl⟩ := List.mem_map.1 h
    obtain ⟨h1, h2⟩ := List.mem_filter.1 hi
    have := List.mem_range.1 h1
    exact ⟨by omega, h2⟩
  · rintro ⟨⟨h0, h1⟩, h2⟩
    refine List.mem_map.2 ⟨x.toNat, List.mem_filter.2 ⟨List.mem_range.2 (by omega), ?_⟩, by omega⟩
    rw [Int.toNat_of_nonneg h0]
    exact h2
theorem callsB_mem {f : FunL} {x : Int} : callsB f x = true ↔ x ∈ calleesL (allIns f) := by
  unfold callsB calleesL allIns callB
  simp only [List.any_eq_true, Bool.and_eq_true, beq_iff_eq, List.mem_map, List.mem_filter, List.mem_flatMap]
  constructor
  · rintro ⟨b, hb, i, hi, ho, rfl⟩
    exact ⟨i, ⟨⟨b, hb, hi⟩, ho⟩, rfl⟩
  · rintro ⟨i, ⟨⟨b, hb, hi⟩, ho⟩, rfl⟩
    exact ⟨b, hb, i, hi, ho, rfl⟩
theorem rowS_rowTo {f : FunL} {n : Nat} (h : ∀ x ∈ calleesL (allIns f), 0 ≤ x ∧ x < n) : rowS (calleesL (allIns f)) = rowTo f n := by
  obtain ⟨h1, h2⟩ := rowS_pair (calleesL (allIns f))
  refine ext_lt h1 (rowTo_pair f n) fun x => ?_
  rw [h2, rowTo_iff, callsB_mem]
  exact ⟨fun hx => ⟨h x hx, hx⟩, fun hx => hx.2⟩

theorem allIns_len (f : FunL) : (allIns f).length ≤ manyL f := by
  unfold allIns manyL
  induction f.blocks with
  | nil => simp
  | cons b l ih =>
    rw [List.flatMap_cons, List.length_append, List.map_cons, List.sum_cons]
    omega
theorem insE_call {regs : Int} {nf : Nat} {P : Nat → Int} {op dst an bn fn : Int} {ar br : Bool} {L : List (Bool × Int)} (h : insE regs nf P op dst an bn fn ar br L = 0) (ho : op = 20) : 0 ≤ fn ∧ fn < nf := by
  unfold insE at h
  split at h
  · cases h
  split at h
  · cases h
  split at h
  · rename_i hc
    exact absurd h hc.2.2
  have hc := firstE_all h (callE regs nf P (op == 20) fn L) (by simp)
  subst ho
  unfold callE at hc
  split at hc
  · rename_i he
    cases he
  split at hc
  · cases hc
  rename_i hn
  exact Decidable.not_not.1 hn
theorem ChkOk.ins {u : UniL} (h : ChkOk u) {k : Nat} (hk : k < u.funcs.length) : ∀ i ∈ allIns u.funcs[k], insL u u.funcs[k] i = 0 := by
  intro i hi
  have hb := h.body k hk
  unfold bodyI at hb
  rw [List.getElem?_eq_getElem hk] at hb
  simp only at hb
  unfold bodyE at hb
  split at hb
  · obtain ⟨b, hbm, him⟩ := List.mem_flatMap.1 hi
    obtain ⟨j, hj, rfl⟩ := List.getElem_of_mem hbm
    have hbj := firstE_all hb (blkI u u.funcs[k] j) (List.mem_map.2 ⟨j, List.mem_range.2 hj, rfl⟩)
    unfold blkI at hbj
    rw [List.getElem?_eq_getElem hj] at hbj
    simp only at hbj
    unfold blkE at hbj
    split at hbj
    · exact firstE_all hbj _ (List.mem_map.2 ⟨i, him, rfl⟩)
    · rename_i hne
      exact absurd hbj hne
  · rename_i hne
    exact absurd hb hne
theorem ChkOk.callees {u : UniL} (h : ChkOk u) {k : Nat} (hk : k < u.funcs.length) : ∀ x ∈ calleesL (allIns u.funcs[k]), 0 ≤ x ∧ x < (u.funcs.length : Int) := by
  intro x hx
  unfold calleesL at hx
  obtain ⟨i, hi, rfl⟩ := List.mem_map.1 hx
  obtain ⟨h1, h2⟩ := List.mem_filter.1 hi
  exact insE_call (h.ins hk i h1) (by simpa using h2)
theorem ChkOk.graph {u : UniL} (h : ChkOk u) : graphL u.funcs = graphTo u.funcs u.funcs.length := by
  unfold graphL graphTo
  rw [List.take_length]
  apply List.ext_getElem (by simp)
  intro i h1 h2
  have hi : i < u.funcs.length := by simpa using h1
  simp only [List.getElem_map]
  exact rowS_rowTo (h.callees hi)
end Go.Proofs.YteckkdmgkikeaaaDoor
