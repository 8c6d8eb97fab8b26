/-
  Plain: what is called is taken in, again and again, until nothing changes.
-/
import Derived.Test.YtlalmbklhmpngaaDoorBRunS
import Derived.Test.YtlalmbklhmpngaaDoorPurG
namespace Go.Proofs.YtlalmbklhmpngaaDoor
open Go.RowKit

theorem maskN_le : ∀ (n : Nat) {a b : Nat → Bool}, (∀ i, i < n → a i = true → b i = true) → maskN n a ≤ maskN n b
  | 0, _, _, _ => Nat.le_refl _
  | n + 1, a, b, h => by
    have h1 := maskN_le n (a := fun i => a (i + 1)) (b := fun i => b (i + 1)) fun i hi => h (i + 1) (by omega)
    have h2 : (a 0).toNat ≤ (b 0).toNat := by
      cases e : a 0
      · simp
      · rw [h 0 (by omega) e]; exact Nat.le_refl _
    unfold maskN
    omega
/-- masks on the way: each function's own, and no more than it may do -/
structure Masks (u : UniL) (m : Nat → Nat → Bool) : Prop where
  up : ∀ k i, k < u.funcs.length → i < 7 → ownB u k i = true → m k i = true
  snd : ∀ k i, k < u.funcs.length → i < 7 → m k i = true → maskB u k i = true
/-- what is still lacking -/
def worth (n : Nat) (m : Nat → Nat → Bool) : Nat := sumTo (fun k => 127 - maskN 7 (m k)) n
def orM (m : Nat → Nat → Bool) (k x : Nat) : Nat → Nat → Bool := fun j => if j = k then fun i => m k i || m x i else m j
theorem orM_at (m : Nat → Nat → Bool) (k x : Nat) : orM m k x k = fun i => m k i || m x i := by unfold orM; rw [if_pos rfl]
theorem orM_ne (m : Nat → Nat → Bool) {k x j : Nat} (h : j ≠ k) : orM m k x j = m j := by unfold orM; rw [if_neg h]
theorem own_mask {u : UniL} {k i : Nat} (hk : k < u.funcs.length) (h : ownB u k i = true) : maskB u k i = true :=
  List.any_eq_true.2 ⟨k, List.mem_range.2 hk, by rw [(table_path _ hk hk).2 (.refl _), h]; rfl⟩
theorem mask_call {u : UniL} {k x i : Nat} (hk : k < u.funcs.length) (hx : x < u.funcs.length) (he : callsB (fnU u k) (x : Int) = true) (h : maskB u x i = true) : maskB u k i = true := by
  obtain ⟨y, hy, h1⟩ := List.any_eq_true.1 h
  have hy2 := List.mem_range.1 hy
  rw [Bool.and_eq_true] at h1
  have hE : edgeL (graphTo u.funcs u.funcs.length) k x := (edge_iff hk hx).2 (by rw [← fnU_get hk]; exact he)
  have hp := path_head hE hx ((table_path _ hx hy2).1 h1.1)
  exact List.any_eq_true.2 ⟨y, hy, by rw [(table_path _ hk hy2).2 hp, h1.2]; rfl⟩
theorem Masks.or {u : UniL} {m : Nat → Nat → Bool} (h : Masks u m) {k x : Nat} (hk : k < u.funcs.length) (hx : x < u.funcs.length) (he : callsB (fnU u k) (x : Int) = true) : Masks u (orM m k x) := by
  refine ⟨fun j i hj hi ho => ?_, fun j i hj hi hm => ?_⟩
  · by_cases e : j = k
    · subst e; rw [orM_at]; simp [h.up j i hj hi ho]
    · rw [orM_ne _ e]; exact h.up j i hj hi ho
  · by_cases e : j = k
    · subst e
      rw [orM_at] at hm
      rcases (Bool.or_eq_true _ _).mp hm with g | g
      · exact h.snd j i hj hi g
      · exact mask_call hj hx he (h.snd x i hx hi g)
    · rw [orM_ne _ e] at hm; exact h.snd j i hj hi hm
theorem sumTo_lt {g g' : Nat → Nat} : ∀ n, (∀ i, i < n → g i ≤ g' i) → ∀ k, k < n → g k < g' k → sumTo g n < sumTo g' n
  | 0, _, k, hk, _ => by omega
  | n + 1, h, k, hk, hlt => by
    show sumTo g n + g n < sumTo g' n + g' n
    have h1 := sumTo_le n fun i hi => h i (by omega)
    have h2 := h n (by omega)
    by_cases e : k = n
    · subst e; omega
    · have := sumTo_lt n (fun i hi => h i (by omega)) k (by omega) hlt
      omega
theorem worth_or {n : Nat} {m : Nat → Nat → Bool} {k x : Nat} (hk : k < n) (h : maskI (fun i => m k i || m x i) ≠ maskI (m k)) : worth n (orM m k x) < worth n m := by
  have hle : ∀ j, maskN 7 (m j) ≤ maskN 7 (orM m k x j) := fun j => by
    by_cases e : j = k
    · subst e; rw [orM_at]; exact maskN_le 7 fun i _ hi => by simp [hi]
    · rw [orM_ne _ e]; exact Nat.le_refl _
  refine sumTo_lt n (fun j _ => by have := hle j; omega) k hk ?_
  have h1 := hle k
  rw [orM_at] at h1 ⊢
  have h2 := maskN_lt 7 fun i => m k i || m x i
  have h3 : maskN 7 (fun i => m k i || m x i) ≠ maskN 7 (m k) := fun e => h (by unfold maskI; rw [e])
  omega
/-- x's bits are k's -/
def Takes (m : Nat → Nat → Bool) (k x : Nat) : Prop := ∀ i, i < 7 → m x i = true → m k i = true
theorem takes_of {m : Nat → Nat → Bool} {k x : Nat} (h : maskI (fun i => m k i || m x i) = maskI (m k)) : Takes m k x := fun i hi hx => by
  have := maskI_eq.1 h i hi
  rw [hx] at this
  simpa using this.symm
/-- a pass over all calls, up to function k and the first j of those that it calls -/
structure Pass (u : UniL) (m0 m : Nat → Nat → Bool) (b : Bool) (k j : Nat) : Prop where
  masks : Masks u m
  same : b = false → m = m0
  done : b = false → ∀ a, a < u.funcs.length → ∀ (l : Nat) (x : Int), (rowTo (fnU u a) u.funcs.length)[l]? = some x → (a < k ∨ a = k ∧ l < j) → Takes m a x.toNat
  less : b = true → worth u.funcs.length m < worth u.funcs.length m0
theorem Pass.start {u : UniL} {m : Nat → Nat → Bool} (h : Masks u m) : Pass u m m false 0 0 :=
  ⟨h, fun _ => rfl, (fun _ a _ l x _ hh => by omega), (fun hh => by cases hh)⟩
theorem Pass.next {u : UniL} {m0 m : Nat → Nat → Bool} {b : Bool} {k j : Nat} (h : Pass u m0 m b k j) {x : Nat} (hx : (rowTo (fnU u k) u.funcs.length)[j]? = some (x : Int)) (ht : Takes m k x) : Pass u m0 m b k (j + 1) :=
  ⟨h.masks, h.same, fun hb a ha l y hy hh => by
    by_cases e : a = k ∧ l = j
    · obtain ⟨rfl, rfl⟩ := e
      rw [hx] at hy
      cases hy
      simpa using ht
    · exact h.done hb a ha l y hy (by omega), h.less⟩
theorem Pass.turn {u : UniL} {m0 m : Nat → Nat → Bool} {b : Bool} {k j : Nat} (h : Pass u m0 m b k j) (hk : k < u.funcs.length) {x : Nat} (hx : x < u.funcs.length) (he : callsB (fnU u k) (x : Int) = true) (hne : maskI (fun i => m k i || m x i) ≠ maskI (m k)) : Pass u m0 (orM m k x) true k (j + 1) := by
  refine ⟨h.masks.or hk hx he, (fun hb => by cases hb), (fun hb => by cases hb), fun _ => ?_⟩
  have h1 := worth_or (m := m) (x := x) hk hne
  cases b with
  | false => rw [h.same rfl] at h1 ⊢; exact h1
  | true => exact Nat.lt_trans h1 (h.less rfl)
theorem Pass.row {u : UniL} {m0 m : Nat → Nat → Bool} {b : Bool} {k j : Nat} (h : Pass u m0 m b k j) (hj : (rowTo (fnU u k) u.funcs.length).length ≤ j) : Pass u m0 m b (k + 1) 0 :=
  ⟨h.masks, h.same, fun hb a ha l x hx hh => by
    refine h.done hb a ha l x hx ?_
    have hl := (List.getElem?_eq_some_iff.1 hx).1
    by_cases e : a = k
    · subst e; exact .inr ⟨rfl, by omega⟩
    · exact .inl (by omega), h.less⟩
/-- nothing changed: they are all there -/
theorem masks_done {u : UniL} {m : Nat → Nat → Bool} (h : Masks u m) (hc : ∀ a, a < u.funcs.length → ∀ (l : Nat) (x : Int), (rowTo (fnU u a) u.funcs.length)[l]? = some x → Takes m a x.toNat) {k : Nat} (hk : k < u.funcs.length) : maskI (m k) = maskI (maskB u k) := by
  refine maskI_congr fun i hi => ?_
  rw [Bool.eq_iff_iff]
  refine ⟨h.snd k i hk hi, fun hm => ?_⟩
  obtain ⟨y, hy, h1⟩ := List.any_eq_true.1 hm
  have hy2 := List.mem_range.1 hy
  rw [Bool.and_eq_true] at h1
  have hp := (table_path _ hk hy2).1 h1.1
  have hb := h.up y i hy2 hi h1.2
  clear h1 hm hy
  induction hp with
  | refl => exact hb
  | @step b c p e hcn ih =>
    have hbn : b < u.funcs.length := by
      clear ih hb e
      induction p with
      | refl => exact hk
      | step _ _ h3 _ => exact h3
    obtain ⟨r, hr, hm⟩ := e
    have hg : (graphTo u.funcs u.funcs.length)[b]? = some (rowTo (fnU u b) u.funcs.length) := by
      unfold graphTo
      rw [fnU_get hbn]
      simp [hbn]
    rw [hg] at hr
    cases hr
    obtain ⟨l, hl⟩ := List.getElem?_of_mem hm
    refine ih hbn (hc b hbn l _ hl i hi ?_)
    simpa using hb
theorem Pass.fin {u : UniL} {m0 m : Nat → Nat → Bool} (h : Pass u m0 m false u.funcs.length 0) {k : Nat} (hk : k < u.funcs.length) : maskI (m k) = maskI (maskB u k) :=
  masks_done h.masks (fun a ha l x hx => h.done rfl a ha l x hx (.inl ha)) hk
theorem own_masks (u : UniL) : Masks u (ownB u) := ⟨fun _ _ _ _ h => h, fun _ _ hk _ h => own_mask hk h⟩
/-- a function's own, with its ring -/
theorem ring_any {u : UniL} {k : Nat} (_hk : k < u.funcs.length) : (rowTo (fnU u k) u.funcs.length).any (fun x : Int => ringN u.funcs.length (tableU u.funcs) x.toNat == ringN u.funcs.length (tableU u.funcs) k) = ringB u k := by
  rw [Bool.eq_iff_iff, List.any_eq_true]
  unfold ringB
  rw [List.any_eq_true]
  constructor
  · rintro ⟨x, hx, h⟩
    obtain ⟨⟨h0, h1⟩, h2⟩ := rowTo_iff.1 hx
    refine ⟨x.toNat, List.mem_range.2 (by omega), ?_⟩
    rw [Bool.and_eq_true]
    refine ⟨?_, h⟩
    rw [Int.toNat_of_nonneg h0]
    exact h2
  · rintro ⟨x, hx, h⟩
    rw [Bool.and_eq_true] at h
    have := List.mem_range.1 hx
    exact ⟨(x : Int), rowTo_iff.2 ⟨⟨by omega, by omega⟩, h.1⟩, by simpa using h.2⟩
end Go.Proofs.YtlalmbklhmpngaaDoor
