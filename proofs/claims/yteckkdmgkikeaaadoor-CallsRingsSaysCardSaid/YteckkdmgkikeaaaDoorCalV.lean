/-
  Plain: rings of functions that reach each other, and the order of who is called ahead of who calls.
-/
import Derived.Test.YteckkdmgkikeaaaDoorCalR
namespace Go.Proofs.YteckkdmgkikeaaaDoor
open Go.RowKit

/-- a table that tells who reaches whom, by whatever edges -/
structure ReachT (n : Nat) (E : Nat → Nat → Bool) (t : Tab) : Prop where
  refl : ∀ a, a < n → t a a = true
  trans : ∀ a b c, a < n → b < n → c < n → t a b = true → t b c = true → t a c = true
  edge : ∀ a b, a < n → b < n → E a b = true → t a b = true

/-- one of a function's ring? -/
def sameR (t : Tab) (k x : Nat) : Bool := t k x && t x k
/-- the least one of a function's ring -/
def ringN (n : Nat) (t : Tab) (k : Nat) : Nat := ((List.range n).find? fun x => sameR t k x).getD 0
def ringsL (n : Nat) (t : Tab) : List Int := (List.range n).map fun k => (ringN n t k : Int)
theorem ringsL_len (n : Nat) (t : Tab) : (ringsL n t).length = n := by simp [ringsL]
theorem ringsL_get {n : Nat} {t : Tab} {k : Nat} (h : k < (ringsL n t).length) : (ringsL n t)[k] = (ringN n t k : Int) := by simp [ringsL]

theorem find_least {p : Nat → Bool} {n k : Nat} (h : (List.range n).find? p = some k) : k < n ∧ p k = true ∧ ∀ j, j < k → p j = false := by
  have h1 := List.find?_some h
  have h2 := List.mem_range.1 (List.mem_of_find?_eq_some h)
  refine ⟨h2, h1, fun j hj => ?_⟩
  rw [List.find?_eq_some_iff_getElem] at h
  obtain ⟨_, i, hi, hik, hlt⟩ := h
  have hi2 : i < n := by simpa using hi
  have e : i = k := by simpa using hik
  subst e
  have := hlt j hj
  simpa using this
theorem find_hit {p : Nat → Bool} {n k : Nat} (hk : k < n) (h1 : p k = true) (h2 : ∀ j, j < k → p j = false) : (List.range n).find? p = some k := by
  cases h : (List.range n).find? p with
  | none =>
    have := List.find?_eq_none.1 h k (List.mem_range.2 hk)
    exact absurd h1 this
  | some j =>
    obtain ⟨a, b, c⟩ := find_least h
    rcases Nat.lt_trichotomy j k with g | g | g
    · rw [h2 j g] at b; cases b
    · rw [g]
    · rw [c k g] at h1; cases h1
theorem find_miss {p : Nat → Bool} {n : Nat} (h : ∀ j, j < n → p j = false) : (List.range n).find? p = none := by
  rw [List.find?_eq_none]
  intro x hx
  rw [h x (List.mem_range.1 hx)]
  simp
theorem ringN_hit {n : Nat} {t : Tab} {k x : Nat} (hx : x < n) (h1 : sameR t k x = true) (h2 : ∀ j, j < x → sameR t k j = false) : ringN n t k = x := by
  unfold ringN
  rw [find_hit hx h1 h2]
  rfl
theorem ringN_spec {n : Nat} {t : Tab} {k : Nat} (hk : k < n) (hr : t k k = true) : ringN n t k < n ∧ ringN n t k ≤ k ∧ sameR t k (ringN n t k) = true ∧ ∀ j, j < ringN n t k → sameR t k j = false := by
  have hs : sameR t k k = true := by unfold sameR; rw [hr]; rfl
  cases h : (List.range n).find? fun x => sameR t k x with
  | none =>
    have := List.find?_eq_none.1 h k (List.mem_range.2 hk)
    exact absurd hs this
  | some j =>
    obtain ⟨a, b, c⟩ := find_least h
    have e : ringN n t k = j := by unfold ringN; rw [h]; rfl
    rw [e]
    refine ⟨a, ?_, b, c⟩
    rcases Nat.lt_or_ge k j with g | g
    · rw [c k g] at hs; cases hs
    · exact g
theorem ringN_congr {n : Nat} {t s : Tab} {k : Nat} (hk : k < n) (h : ∀ a b, a < n → b < n → t a b = s a b) : ringN n t k = ringN n s k := by
  have e : (List.range n).find? (fun x => sameR t k x) = (List.range n).find? fun x => sameR s k x := by
    cases h1 : (List.range n).find? fun x => sameR s k x with
    | none =>
      refine find_miss fun j hj => ?_
      have := List.find?_eq_none.1 h1 j (List.mem_range.2 hj)
      unfold sameR at this ⊢
      rw [h _ _ hk hj, h _ _ hj hk]
      simpa using this
    | some j =>
      obtain ⟨a, b, c⟩ := find_least h1
      refine find_hit a ?_ fun i hi => ?_
      · unfold sameR at b ⊢; rw [h _ _ hk a, h _ _ a hk]; exact b
      · have := c i hi
        unfold sameR at this ⊢
        rw [h _ _ hk (by omega), h _ _ (by omega) hk]
        exact this
  unfold ringN
  rw [e]
/-- the least one that is not below x -/
def ringFrom (n : Nat) (t : Tab) (k x : Nat) : Nat := ((List.range n).find? fun y => decide (x ≤ y) && sameR t k y).getD 0
theorem ringFrom_end (n : Nat) (t : Tab) (k : Nat) : ringFrom n t k n = 0 := by
  unfold ringFrom
  rw [find_miss fun j hj => ?_]
  · rfl
  · have : decide (n ≤ j) = false := decide_eq_false (by omega)
    rw [this]; rfl
theorem ringFrom_zero (n : Nat) (t : Tab) (k : Nat) : ringFrom n t k 0 = ringN n t k := by
  unfold ringFrom ringN
  simp
theorem ringFrom_yes {n : Nat} {t : Tab} {k x : Nat} (hx : x < n) (h : sameR t k x = true) : ringFrom n t k x = x := by
  unfold ringFrom
  rw [find_hit hx (by simp [h]) (fun j hj => ?_)]
  · rfl
  · have : decide (x ≤ j) = false := decide_eq_false (by omega)
    rw [this]; rfl
theorem ringFrom_no {n : Nat} {t : Tab} {k x : Nat} (h : sameR t k x = false) : ringFrom n t k x = ringFrom n t k (x + 1) := by
  unfold ringFrom
  have e : (fun y => decide (x ≤ y) && sameR t k y) = fun y => decide (x + 1 ≤ y) && sameR t k y := by
    funext y
    by_cases hy : y = x
    · subst hy; simp [h]
    · have : decide (x ≤ y) = decide (x + 1 ≤ y) := by rw [decide_eq_decide]; omega
      rw [this]
  rw [e]

theorem sameR_symm {t : Tab} {a b : Nat} (h : sameR t a b = true) : sameR t b a = true := by
  unfold sameR at h ⊢
  rw [Bool.and_comm]; exact h
theorem ReachT.same_trans {n : Nat} {E : Nat → Nat → Bool} {t : Tab} (h : ReachT n E t) {a b c : Nat} (ha : a < n) (hb : b < n) (hc : c < n) (h1 : sameR t a b = true) (h2 : sameR t b c = true) : sameR t a c = true := by
  unfold sameR at h1 h2 ⊢
  rw [Bool.and_eq_true] at h1 h2 ⊢
  exact ⟨h.trans _ _ _ ha hb hc h1.1 h2.1, h.trans _ _ _ hc hb ha h2.2 h1.2⟩
theorem ReachT.ring_eq {n : Nat} {E : Nat → Nat → Bool} {t : Tab} (h : ReachT n E t) {a b : Nat} (ha : a < n) (hb : b < n) : ringN n t a = ringN n t b ↔ sameR t a b = true := by
  obtain ⟨a1, a2, a3, a4⟩ := ringN_spec ha (h.refl a ha)
  obtain ⟨b1, b2, b3, b4⟩ := ringN_spec hb (h.refl b hb)
  constructor
  · intro e
    rw [e] at a3
    exact h.same_trans ha b1 hb a3 (sameR_symm b3)
  · intro hs
    refine ringN_hit b1 (h.same_trans ha hb b1 hs b3) fun j hj => ?_
    cases hj2 : sameR t a j with
    | false => rfl
    | true =>
      have := h.same_trans hb ha (by omega) (sameR_symm hs) hj2
      rw [b4 j hj] at this
      cases this
theorem ReachT.ring_ring {n : Nat} {E : Nat → Nat → Bool} {t : Tab} (h : ReachT n E t) {a : Nat} (ha : a < n) : ringN n t (ringN n t a) = ringN n t a := by
  obtain ⟨a1, a2, a3, a4⟩ := ringN_spec ha (h.refl a ha)
  exact (h.ring_eq a1 ha).2 (sameR_symm a3)

/-- is it not told yet, and all that it calls, but of its ring? -/
def readyB (n : Nat) (E : Nat → Nat → Bool) (r : Nat → Nat) (told : Nat → Bool) (k : Nat) : Bool := !told k && (List.range n).all fun x => !(E k x && !told x && r x != r k)
def nextO (n : Nat) (E : Nat → Nat → Bool) (r : Nat → Nat) (o : List Nat) : Option Nat := (List.range n).find? (readyB n E r fun x => o.contains x)
/-- behind m turns -/
def orderN (n : Nat) (E : Nat → Nat → Bool) (r : Nat → Nat) : Nat → List Nat
  | 0 => []
  | m + 1 => match nextO n E r (orderN n E r m) with
    | some k => orderN n E r m ++ [k]
    | none => orderN n E r m

theorem count_less {p q : Nat → Bool} {k n : Nat} (h : ∀ x, x < n → p x = true → q x = true) (hk : k < n) (h1 : p k = false) (h2 : q k = true) : ((List.range n).filter p).length < ((List.range n).filter q).length :=
  filter_less (k := k) _ (fun x hx => h x (List.mem_range.1 hx)) (List.mem_range.2 hk) h1 h2
theorem readyB_true {n : Nat} {E : Nat → Nat → Bool} {r : Nat → Nat} {told : Nat → Bool} {k : Nat} : readyB n E r told k = true ↔ told k = false ∧ ∀ x, x < n → E k x = true → told x = false → r x = r k := by
  unfold readyB
  rw [Bool.and_eq_true, List.all_eq_true]
  constructor
  · rintro ⟨h1, h2⟩
    refine ⟨by simpa using h1, fun x hx he ht => ?_⟩
    have := h2 x (List.mem_range.2 hx)
    rw [he, ht] at this
    simpa using this
  · rintro ⟨h1, h2⟩
    refine ⟨by simp [h1], fun x hx => ?_⟩
    have := h2 x (List.mem_range.1 hx)
    cases he : E k x
    · rfl
    · cases ht : told x
      · simp [this he ht]
      · rfl
/-- while some one is untold, some one is ready -/
theorem ReachT.some_ready {n : Nat} {E : Nat → Nat → Bool} {t : Tab} (h : ReachT n E t) (told : Nat → Bool) : ∀ (c k : Nat), ((List.range n).filter (t k)).length ≤ c → k < n → told k = false → ∃ j, j < n ∧ readyB n E (ringN n t) told j = true := by
  intro c
  induction c with
  | zero =>
    intro k hc hk _
    have : k ∈ (List.range n).filter (t k) := List.mem_filter.2 ⟨List.mem_range.2 hk, h.refl k hk⟩
    have := List.length_pos_of_mem this
    omega
  | succ c ih =>
    intro k hc hk ht
    by_cases hx : ∃ x, x < n ∧ E k x = true ∧ told x = false ∧ ringN n t x ≠ ringN n t k
    · obtain ⟨x, hxn, he, htx, hne⟩ := hx
      have hkx := h.edge k x hk hxn he
      have hxk : t x k = false := by
        cases hh : t x k with
        | false => rfl
        | true => exact absurd ((h.ring_eq hxn hk).2 (by unfold sameR; rw [hkx, hh]; rfl)) hne
      refine ih x ?_ hxn htx
      have := count_less (p := t x) (q := t k) (k := k) (n := n) (fun y hy hxy => h.trans _ _ _ hk hxn hy hkx hxy) hk hxk (h.refl k hk)
      omega
    · refine ⟨k, hk, readyB_true.2 ⟨ht, fun x hxn he htx => ?_⟩⟩
      rcases Decidable.em (ringN n t x = ringN n t k) with e | e
      · exact e
      · exact absurd ⟨x, hxn, he, htx, e⟩ hx
/-- what m turns leave -/
structure OrderOk (n : Nat) (E : Nat → Nat → Bool) (r : Nat → Nat) (o : List Nat) : Prop where
  low : ∀ k ∈ o, k < n
  nodup : o.Nodup
  ahead : ∀ i (hi : i < o.length) x, x < n → E o[i] x = true → r x ≠ r o[i] → x ∈ o.take i
theorem nodup_len {n : Nat} {o : List Nat} (h1 : ∀ k ∈ o, k < n) (h2 : o.Nodup) : o.length ≤ n := by
  have := h2.length_le_of_subset (l₂ := List.range n) (fun x hx => List.mem_range.2 (h1 x hx))
  simpa using this
theorem untold {n : Nat} {o : List Nat} (h : o.length < n) : ∃ k, k < n ∧ k ∉ o := by
  by_cases hh : ∀ k, k < n → k ∈ o
  · have := (List.nodup_range (n := n)).length_le_of_subset (l₂ := o) (fun x hx => hh x (List.mem_range.1 hx))
    simp at this
    omega
  · simp only [Classical.not_forall] at hh
    obtain ⟨k, hk, hn⟩ := hh
    exact ⟨k, hk, hn⟩
theorem OrderOk.nil (n : Nat) (E : Nat → Nat → Bool) (r : Nat → Nat) : OrderOk n E r [] := ⟨by simp, by simp, fun i hi => by simp at hi⟩
theorem OrderOk.snoc {n : Nat} {E : Nat → Nat → Bool} {r : Nat → Nat} {o : List Nat} (h : OrderOk n E r o) {k : Nat} (hk : k < n) (hr : readyB n E r (fun x => o.contains x) k = true) : OrderOk n E r (o ++ [k]) := by
  obtain ⟨h1, h2⟩ := readyB_true.1 hr
  have hn : k ∉ o := by simpa using h1
  refine ⟨fun x hx => ?_, ?_, fun i hi x hx he hne => ?_⟩
  · rcases List.mem_append.1 hx with g | g
    · exact h.low x g
    · rw [List.mem_singleton.1 g]; exact hk
  · rw [List.nodup_append]
    refine ⟨h.nodup, by simp, fun a ha b hb e => ?_⟩
    rw [List.mem_singleton.1 hb] at e
    exact hn (e ▸ ha)
  · rw [List.length_append, List.length_singleton] at hi
    rcases Nat.lt_or_ge i o.length with g | g
    · rw [List.getElem_append_left g] at he hne
      rw [List.take_append_of_le_length (by omega)]
      exact h.ahead i g x hx he hne
    · obtain rfl : i = o.length := by omega
      have e : (o ++ [k])[o.length] = k := by simp
      rw [e] at he hne
      rw [List.take_left]
      cases hc : o.contains x with
      | false => exact absurd (h2 x hx he hc) hne
      | true => simpa using hc
theorem orderN_ok (n : Nat) (E : Nat → Nat → Bool) (r : Nat → Nat) : ∀ m, OrderOk n E r (orderN n E r m)
  | 0 => OrderOk.nil n E r
  | m + 1 => by
    have ih := orderN_ok n E r m
    unfold orderN
    cases h : nextO n E r (orderN n E r m) with
    | none => exact ih
    | some k =>
      obtain ⟨a, b, _⟩ := find_least h
      exact ih.snoc a b
theorem ReachT.next_some {n : Nat} {E : Nat → Nat → Bool} {t : Tab} (h : ReachT n E t) {o : List Nat} (ho : o.length < n) : ∃ k, nextO n E (ringN n t) o = some k := by
  obtain ⟨k, hk, hn⟩ := untold ho
  obtain ⟨j, hj, hr⟩ := h.some_ready (fun x => o.contains x) _ k (Nat.le_refl _) hk (by simpa using hn)
  cases hf : nextO n E (ringN n t) o with
  | some k => exact ⟨k, rfl⟩
  | none => exact absurd hr (List.find?_eq_none.1 hf j (List.mem_range.2 hj))
theorem ReachT.order_len {n : Nat} {E : Nat → Nat → Bool} {t : Tab} (h : ReachT n E t) : ∀ m, m ≤ n → (orderN n E (ringN n t) m).length = m
  | 0, _ => rfl
  | m + 1, hm => by
    have ih := h.order_len m (by omega)
    obtain ⟨k, hk⟩ := h.next_some (o := orderN n E (ringN n t) m) (by omega)
    unfold orderN
    rw [hk]
    simp [ih]
def intsN (l : List Nat) : List Int := l.map fun (k : Nat) => (k : Int)
theorem intsN_len (l : List Nat) : (intsN l).length = l.length := by simp [intsN]
theorem intsN_get {l : List Nat} {i : Nat} (h : i < (intsN l).length) : (intsN l)[i] = ((l[i]'(by simpa [intsN] using h) : Nat) : Int) := by simp [intsN]

/-- does one function of a unit call another one? -/
def edgeU (xs : List FunL) (a b : Nat) : Bool := match xs[a]? with | some f => callsB f (b : Int) | none => false
theorem reachU (xs : List FunL) : ReachT xs.length (edgeU xs) (tableU xs) where
  refl := fun a ha => (table_path xs ha ha).2 (.refl a)
  trans := fun a b c ha hb hc h1 h2 => (table_path xs ha hc).2 (((table_path xs ha hb).1 h1).trans ((table_path xs hb hc).1 h2))
  edge := fun a b ha hb h => (table_path xs ha hb).2 (.step (.refl a) ((edge_iff ha hb).2 (by unfold edgeU at h; rw [List.getElem?_eq_getElem ha] at h; exact h)) hb)
/-- the order of a unit's functions -/
def orderU (xs : List FunL) : List Nat := orderN xs.length (edgeU xs) (ringN xs.length (tableU xs)) xs.length
end Go.Proofs.YteckkdmgkikeaaaDoor
