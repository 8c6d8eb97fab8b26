/-
  Plain: depth first, what is visited; the unvisited ones, counted.
-/
import Derived.Test.YteckkdmgkikeaaaDoorCalN
import Derived.Test.YteckkdmgkikeaaaDoorCalE
namespace Go.Proofs.YteckkdmgkikeaaaDoor

/-- how many are not visited -/
def leftN (n : Nat) (had : Nat → Bool) : Nat := ((List.range n).filter fun j => !had j).length
theorem filter_mono {p q : Nat → Bool} : ∀ (l : List Nat), (∀ x ∈ l, p x = true → q x = true) → (l.filter p).length ≤ (l.filter q).length
  | [], _ => by simp
  | a :: l, h => by
    have ih := filter_mono l (fun x hx => h x (List.mem_cons_of_mem _ hx))
    have ha := h a List.mem_cons_self
    by_cases hp : p a = true
    · rw [List.filter_cons_of_pos hp, List.filter_cons_of_pos (ha hp)]
      simpa using ih
    · rw [List.filter_cons_of_neg hp]
      by_cases hq : q a = true
      · rw [List.filter_cons_of_pos hq]; simp; omega
      · rw [List.filter_cons_of_neg hq]; exact ih
theorem filter_less {p q : Nat → Bool} {k : Nat} : ∀ (l : List Nat), (∀ x ∈ l, p x = true → q x = true) → k ∈ l → p k = false → q k = true → (l.filter p).length < (l.filter q).length
  | [], _, h, _, _ => by cases h
  | a :: l, h, hk, h1, h2 => by
    have ha := h a List.mem_cons_self
    rcases List.mem_cons.1 hk with e | hk2
    · subst e
      have ih := filter_mono l (fun x hx => h x (List.mem_cons_of_mem _ hx))
      rw [List.filter_cons_of_neg (by simp [h1]), List.filter_cons_of_pos h2]
      simp; omega
    · have ih := filter_less l (fun x hx => h x (List.mem_cons_of_mem _ hx)) hk2 h1 h2
      by_cases hp : p a = true
      · rw [List.filter_cons_of_pos hp, List.filter_cons_of_pos (ha hp)]
        simpa using ih
      · rw [List.filter_cons_of_neg hp]
        by_cases hq : q a = true
        · rw [List.filter_cons_of_pos hq]; simp; omega
        · rw [List.filter_cons_of_neg hq]; exact ih
theorem leftN_mono {n : Nat} {p q : Nat → Bool} (h : ∀ j, p j = true → q j = true) : leftN n q ≤ leftN n p :=
  filter_mono _ fun x _ hx => by
    cases hp : p x with
    | false => rfl
    | true => rw [h x hp] at hx; cases hx
theorem leftN_less {n k : Nat} {p q : Nat → Bool} (h : ∀ j, p j = true → q j = true) (hk : k < n) (h1 : p k = false) (h2 : q k = true) : leftN n q < leftN n p := by
  refine filter_less (k := k) _ (fun x _ hx => ?_) (List.mem_range.2 hk) (by simp [h2]) (by simp [h1])
  cases hp : p x with
  | false => rfl
  | true => rw [h x hp] at hx; cases hx

/-- who calls whom -/
def edgeL (gs : List (List Int)) (a b : Nat) : Prop := ∃ r, gs[a]? = some r ∧ (b : Int) ∈ r
/-- what a visit of k leaves -/
structure Visits (n : Nat) (gs : List (List Int)) (k : Nat) (had had' : Nat → Bool) : Prop where
  up : ∀ j, had j = true → had' j = true
  self : had' k = true
  path : ∀ j, j < n → had' j = true → had j = true ∨ Path n (edgeL gs) k j
  next : ∀ j, j < n → had' j = true → had j = false → ∀ x, x < n → edgeL gs j x → had' x = true
/-- between two callees of k: the first m are visited -/
structure VisitsTo (n : Nat) (gs : List (List Int)) (k : Nat) (row : List Int) (m : Nat) (had had' : Nat → Bool) : Prop where
  up : ∀ j, had j = true → had' j = true
  self : had' k = true
  path : ∀ j, j < n → had' j = true → had j = true ∨ Path n (edgeL gs) k j
  next : ∀ j, j < n → had' j = true → had j = false → j ≠ k → ∀ x, x < n → edgeL gs j x → had' x = true
  to : ∀ i (h : i < row.length), i < m → ∀ x : Nat, row[i] = (x : Int) → had' x = true

theorem VisitsTo.start {n : Nat} {gs : List (List Int)} {k : Nat} {row : List Int} {had : Nat → Bool} : VisitsTo n gs k row 0 had (fun j => if j = k then true else had j) where
  up := fun j h => by
    show (if j = k then true else had j) = true
    split
    · rfl
    · exact h
  self := by simp
  path := fun j _ h => by
    replace h : (if j = k then true else had j) = true := h
    by_cases e : j = k
    · subst e; exact .inr (.refl _)
    · rw [if_neg e] at h; exact .inl h
  next := fun j _ h h0 hk => by
    replace h : (if j = k then true else had j) = true := h
    rw [if_neg hk, h0] at h
    cases h
  to := fun i _ h => by omega
theorem VisitsTo.succ {n : Nat} {gs : List (List Int)} {k m : Nat} {row : List Int} {had h1 h2 : Nat → Bool} (h : VisitsTo n gs k row m had h1) (hr : gs[k]? = some row) (hm : m < row.length) {x : Nat} (hx : row[m] = (x : Int)) (hxn : x < n) (v : Visits n gs x h1 h2) : VisitsTo n gs k row (m + 1) had h2 where
  up := fun j hj => v.up j (h.up j hj)
  self := v.up _ h.self
  path := fun j hj hh => by
    rcases v.path j hj hh with e | e
    · exact h.path j hj e
    · refine .inr (Path.trans (.step (.refl _) ⟨row, hr, ?_⟩ hxn) e)
      rw [← hx]
      exact List.getElem_mem hm
  next := fun j hj hh h0 hk y hy he => by
    cases hj1 : h1 j with
    | true => exact v.up _ (h.next j hj hj1 h0 hk y hy he)
    | false => exact v.next j hj hh hj1 y hy he
  to := fun i hi him y hy => by
    by_cases e : i < m
    · exact v.up _ (h.to i hi e y hy)
    · obtain rfl : i = m := by omega
      rw [hx] at hy
      have : x = y := by omega
      subst this
      exact v.self
theorem VisitsTo.done {n : Nat} {gs : List (List Int)} {k : Nat} {row : List Int} {had had' : Nat → Bool} (h : VisitsTo n gs k row row.length had had') (hr : gs[k]? = some row) : Visits n gs k had had' where
  up := h.up
  self := h.self
  path := h.path
  next := fun j hj hh h0 x hx he => by
    by_cases e : j = k
    · subst e
      obtain ⟨r, hr2, hm⟩ := he
      rw [hr] at hr2
      cases hr2
      obtain ⟨i, hi, e2⟩ := List.getElem_of_mem hm
      exact h.to i hi hi x e2
    · exact h.next j hj hh h0 e x hx he
theorem Visits.had {n : Nat} {gs : List (List Int)} {k : Nat} {had : Nat → Bool} (h : had k = true) : Visits n gs k had had where
  up := fun _ h => h
  self := h
  path := fun _ _ h => .inl h
  next := fun j _ h1 h2 => by rw [h1] at h2; cases h2
/-- from nothing: just what k reaches -/
theorem Visits.all {n : Nat} {gs : List (List Int)} {k : Nat} {had' : Nat → Bool} (v : Visits n gs k (fun _ => false) had') {j : Nat} (hk : k < n) (hj : j < n) : had' j = true ↔ Path n (edgeL gs) k j := by
  constructor
  · intro h
    rcases v.path j hj h with e | e
    · cases e
    · exact e
  · intro h
    have key : ∀ a b, Path n (edgeL gs) a b → a < n → had' a = true → b < n ∧ had' b = true := by
      intro a b hp
      induction hp with
      | refl => exact fun ha h => ⟨ha, h⟩
      | step _ e hc ih => exact fun ha h => ⟨hc, v.next _ (ih ha h).1 (ih ha h).2 rfl _ hc e⟩
    exact (key k j h hk v.self).2
end Go.Proofs.YteckkdmgkikeaaaDoor
