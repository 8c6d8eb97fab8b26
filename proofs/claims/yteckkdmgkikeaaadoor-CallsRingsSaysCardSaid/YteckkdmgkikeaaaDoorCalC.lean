/-
  Plain: a list of rows of numbers that a call makes: the outer slice and each row own memory of the call's own.
-/
import Derived.Test.YteckkdmgkikeaaaDoorCalA
import Derived.Maps.AppendAt
namespace Go.Proofs.YteckkdmgkikeaaaDoor
open Go.RowKit

theorem addr_add (g i : Nat) : (⟨g, 0, none⟩ : Addr).add i = ⟨g, i, none⟩ := by unfold Addr.add; split <;> simp_all

theorem ownsRow_base {w : World} {B B' : Nat} {e : TypeId} {size : Nat} {v : Value} {n : Nat} {xs : List Value} (h : w.ownsRow B' e size v n xs) (hb : B ≤ B') : w.ownsRow B e size v n xs := by
  refine ⟨h.1, ?_⟩
  rcases h.2 with h2 | ⟨g, cap, cur, h1, h2, h3⟩
  · exact .inl h2
  · exact .inr ⟨g, cap, cur, h1, by omega, h3⟩
theorem own_slice {w : World} {B : Nat} {e : TypeId} {v : Value} {n : Nat} {xs : List Value} (h : w.ownsRow B e 1 v n xs) : ∃ p c, v = .slice p n c := by
  rcases h.2 with ⟨h1, h2⟩ | ⟨g, cap, cur, h1, _⟩
  · exact ⟨none, 0, by rw [h1, h2]⟩
  · exact ⟨_, _, h1⟩
theorem own_cell {w : World} {B : Nat} {e : TypeId} {p : Option Addr} {n c : Nat} {xs : List Value} (h : w.ownsRow B e 1 (.slice p n c) n xs) {i : Nat} (hi : i < n) : ∃ g, p = some ⟨g, 0, none⟩ ∧ B ≤ g ∧ g < w.heap.size ∧ w.cell? ⟨g, i, none⟩ = xs[i]? := by
  have hl : xs.length = n := by simpa using h.1
  rcases h.2 with ⟨h1, h2⟩ | ⟨g, cap, cur, h1, hb, hh, hr⟩
  · omega
  · cases h1
    refine ⟨g, rfl, hb, (Array.getElem?_eq_some_iff.1 hh).1, ?_⟩
    have := h.cells (g := g) rfl i xs[i] (List.getElem?_eq_getElem _)
    rw [addr_add] at this
    rw [this, List.getElem?_eq_getElem]
theorem own_ints {w : World} {B : Nat} {e : TypeId} {v : Value} {n : Nat} {xs : List Int} (hl : xs.length = n) (h : w.ownsRow B e 1 v n (xs.map (.int .i64))) (hI : ∀ x ∈ xs, I64 x) : ∃ p c, v = .slice p xs.length c ∧ SliceAt w 1 IntR p xs := by
  obtain ⟨p, c, rfl⟩ := own_slice h
  refine ⟨p, c, by rw [hl], ?_⟩
  rcases Nat.eq_zero_or_pos n with h0 | h0
  · exact .inl (List.length_eq_zero_iff.1 (hl.trans h0))
  · obtain ⟨g, rfl, _⟩ := own_cell h h0
    refine .inr ⟨g, 0, rfl, fun i hi => ⟨[.int .i64 xs[i]], rfl, fun j hj => ?_, rfl, hI _ (List.getElem_mem hi)⟩⟩
    obtain rfl : j = 0 := by omega
    obtain ⟨g', hg, _, _, hc⟩ := own_cell h (i := i) (by omega)
    cases hg
    simp only [Nat.zero_add, Nat.mul_one, Nat.add_zero]
    rw [hc]
    simp [hi]

/-- rows of numbers, each in its own memory from block B on, and the slice of them -/
structure RowsB (w : World) (B : Nat) (ts ti : TypeId) (v : Value) (rows : List (List Int)) (vals : List Value) : Prop where
  len : vals.length = rows.length
  own : w.ownsRow B ts 1 v rows.length vals
  row : ∀ j (h : j < rows.length), w.ownsRow B ti 1 (vals.getD j (.slice none 0 0)) rows[j].length (rows[j].map (.int .i64))
  two : ∀ j, j < rows.length → (vals.getD j (.slice none 0 0)).ownBlock = none ∨ (vals.getD j (.slice none 0 0)).ownBlock ≠ v.ownBlock

theorem RowsB.nil (w : World) (B : Nat) (ts ti : TypeId) : RowsB w B ts ti (.slice none 0 0) [] [] :=
  ⟨rfl, World.ownsRow_nil _ _ _ _, fun j h => by simp at h, fun j h => by simp at h⟩
theorem ownsRow_below' {w w' : World} {base : Nat} {e : TypeId} {size : Nat} {v : Value} {n : Nat} {xs : List Value} (h : w.ownsRow base e size v n xs) (hb : Below w.heap.size w w') : w'.ownsRow base e size v n xs := by
  refine h.kept (row := none) ⟨hb.os, hb.tape, hb.output, hb.size, fun k hk _ => hb.block k hk⟩ ?_
  cases v.ownBlock with
  | none => exact .inl rfl
  | some k => exact .inr (by simp)
theorem RowsB.below {w w' : World} {B : Nat} {ts ti : TypeId} {v : Value} {rows : List (List Int)} {vals : List Value} (h : RowsB w B ts ti v rows vals) (hb : Below w.heap.size w w') : RowsB w' B ts ti v rows vals :=
  ⟨h.len, ownsRow_below' h.own hb, fun j hj => ownsRow_below' (h.row j hj) hb, h.two⟩
/-- a row more: what append to the outer slice leaves -/
theorem RowsB.snoc {w w' : World} {B : Nat} {ts ti : TypeId} {v v' r : Value} {rows : List (List Int)} {vals : List Value} {row : List Int} (h : RowsB w B ts ti v rows vals) (hr : w.ownsRow B ti 1 r row.length (row.map (.int .i64))) (hd : r.ownBlock = none ∨ r.ownBlock ≠ v.ownBlock)
    (hown : w'.ownsRow B ts 1 v' (rows.length + 1) (vals ++ [r])) (hg : w.grownBy w' v.ownBlock) (hat : v'.ownBlock = v.ownBlock ∨ v'.ownBlock = some w.heap.size) : RowsB w' B ts ti v' (rows ++ [row]) (vals ++ [r]) := by
  have hlow : ∀ k (u : Value) n xs, w.ownsRow B ti 1 u n xs → u.ownBlock = some k → k < w.heap.size := fun k u n xs ho hk => (ho.lt k hk).2
  have key : ∀ (u : Value) n xs, w.ownsRow B ti 1 u n xs → (u.ownBlock = none ∨ u.ownBlock ≠ v.ownBlock) → w'.ownsRow B ti 1 u n xs ∧ (u.ownBlock = none ∨ u.ownBlock ≠ v'.ownBlock) := fun u n xs ho hn => by
    refine ⟨ho.kept hg hn, ?_⟩
    cases hu : u.ownBlock with
    | none => exact .inl rfl
    | some k =>
      right
      rcases hat with e | e
      · rw [e, ← hu]
        rcases hn with hn | hn
        · rw [hu] at hn; cases hn
        · exact hn
      · rw [e]
        intro he
        have := hlow k u n xs ho hu
        injection he with he
        omega
  have gl : ∀ j, j < rows.length → (vals ++ [r]).getD j (.slice none 0 0) = vals.getD j (.slice none 0 0) := fun j hj => by
    simp [List.getD, List.getElem?_append_left (show j < vals.length by rw [h.len]; exact hj)]
  have gr : (vals ++ [r]).getD rows.length (.slice none 0 0) = r := by
    simp [List.getD, ← h.len]
  refine ⟨by simp [h.len], by simpa using hown, fun j hj => ?_, fun j hj => ?_⟩
  · rw [List.length_append, List.length_singleton] at hj
    rcases Nat.lt_or_ge j rows.length with g | g
    · rw [List.getElem_append_left g, gl j g]
      exact (key _ _ _ (h.row j g) (h.two j g)).1
    · obtain rfl : j = rows.length := by omega
      rw [gr]
      have e : (rows ++ [row])[rows.length] = row := by simp
      rw [e]
      exact (key _ _ _ hr hd).1
  · rw [List.length_append, List.length_singleton] at hj
    rcases Nat.lt_or_ge j rows.length with g | g
    · rw [gl j g]
      exact (key _ _ _ (h.row j g) (h.two j g)).2
    · obtain rfl : j = rows.length := by omega
      rw [gr]
      exact (key _ _ _ hr hd).2
theorem RowsB.reads {w : World} {B : Nat} {ts ti : TypeId} {v : Value} {rows : List (List Int)} {vals : List Value} (h : RowsB w B ts ti v rows vals) (hI : ∀ r ∈ rows, r.length ≤ 140737488355328 ∧ ∀ x ∈ r, I64 x) : ∃ p c, v = .slice p rows.length c ∧ SliceAt w 1 (IntsR w) p rows := by
  obtain ⟨p, c, rfl⟩ := own_slice h.own
  refine ⟨p, c, rfl, ?_⟩
  rcases Nat.eq_zero_or_pos rows.length with h0 | h0
  · exact .inl (List.length_eq_zero_iff.1 h0)
  · obtain ⟨g, rfl, _⟩ := own_cell h.own h0
    refine .inr ⟨g, 0, rfl, fun i hi => ?_⟩
    obtain ⟨hl, hx⟩ := hI _ (List.getElem_mem hi)
    obtain ⟨q, d, hq, hs⟩ := own_ints rfl (h.row i hi) hx
    refine ⟨[.slice q rows[i].length d], rfl, fun j hj => ?_, q, d, rfl, hl, hs⟩
    obtain rfl : j = 0 := by omega
    obtain ⟨g', hg, _, _, hc⟩ := own_cell h.own (i := i) hi
    cases hg
    simp only [Nat.zero_add, Nat.mul_one, Nat.add_zero, List.getElem?_cons_zero]
    rw [hc, ← hq, List.getElem?_eq_getElem (by rw [h.len]; exact hi)]
    simp [List.getD, h.len, hi]
end Go.Proofs.YteckkdmgkikeaaaDoor
