/-
  Plain: a search for a block that leads to itself, depth first.
-/
import Derived.Test.YtlalmbklhmpngaaDoorBRunS
import Derived.Test.YtlalmbklhmpngaaDoorBCalO
namespace Go.Proofs.YtlalmbklhmpngaaDoor
open Go.RowKit

theorem plus_snoc {f : FunL} {x b t : Nat} (hb : b < f.blocks.length) (ht : t < f.blocks.length) (h : plusB f x b = true) (hw : wayB f b t = true) : plusB f x t = true := by
  obtain ⟨s, hs, h1, h2⟩ := (plus_iff hb).1 h
  exact (plus_iff ht).2 ⟨s, hs, h1, h2.step hw ht⟩
/-- what a search knows: 0 fresh, 1 open, 2 done -/
structure Dfs (f : FunL) (σ : Nat → Nat) : Prop where
  next : ∀ x y, x < f.blocks.length → y < f.blocks.length → σ x = 2 → wayB f x y = true → σ y = 2
  none : ∀ x, x < f.blocks.length → σ x = 2 → plusB f x x = false
/-- what a visit of b leaves that finds nothing -/
structure Found (f : FunL) (b : Nat) (σ σ' : Nat → Nat) : Prop where
  dfs : Dfs f σ'
  self : σ' b = 2
  up : ∀ x, σ x = 2 → σ' x = 2
  opn : ∀ x, σ' x = 1 ↔ σ x = 1
/-- the like in between: so many of those that b leads to are done -/
structure FoundTo (f : FunL) (b : Nat) (to : List Int) (m : Nat) (σ σ' : Nat → Nat) : Prop where
  dfs : Dfs f σ'
  self : σ' b = 1
  up : ∀ x, σ x = 2 → σ' x = 2
  opn : ∀ x, x ≠ b → (σ' x = 1 ↔ σ x = 1)
  done : ∀ i (h : i < to.length), i < m → σ' to[i].toNat = 2
def updN (σ : Nat → Nat) (b v : Nat) : Nat → Nat := fun j => if j = b then v else σ j
theorem updN_at (σ : Nat → Nat) (b v : Nat) : updN σ b v b = v := by simp [updN]
theorem updN_ne (σ : Nat → Nat) {b j : Nat} (v : Nat) (h : j ≠ b) : updN σ b v j = σ j := by simp [updN, h]
theorem FoundTo.start {f : FunL} {b : Nat} {to : List Int} {σ : Nat → Nat} (h : Dfs f σ) (hb : σ b = 0) : FoundTo f b to 0 σ (updN σ b 1) := by
  have h2 : ∀ x, updN σ b 1 x = 2 ↔ σ x = 2 := fun x => by
    by_cases e : x = b
    · subst e; rw [updN_at, hb]; omega
    · rw [updN_ne _ _ e]
  exact ⟨⟨fun x y hx hy h1 hw => (h2 y).2 (h.next x y hx hy ((h2 x).1 h1) hw), fun x hx h1 => h.none x hx ((h2 x).1 h1)⟩, updN_at _ _ _, fun x hx => (h2 x).2 hx, fun x hx => by rw [updN_ne _ _ hx], fun i _ hi => by omega⟩
theorem FoundTo.succ {f : FunL} {b : Nat} {to : List Int} {m : Nat} {σ σ1 σ2 : Nat → Nat} (h : FoundTo f b to m σ σ1) (hm : m < to.length) (h2 : Found f to[m].toNat σ1 σ2) : FoundTo f b to (m + 1) σ σ2 :=
  ⟨h2.dfs, (h2.opn b).2 h.self, fun x hx => h2.up x (h.up x hx), fun x hx => (h2.opn x).trans (h.opn x hx), fun i hi him => by
    by_cases e : i = m
    · subst e; exact h2.self
    · exact h2.up _ (h.done i hi (by omega))⟩
theorem way_mem {f : FunL} {b t : Nat} (hb : b < f.blocks.length) : wayB f b t = true ↔ ∃ x ∈ f.blocks[b].fin.to, x = (t : Int) := by
  unfold wayB
  rw [List.getElem?_eq_getElem hb]
  simp only
  rw [List.any_eq_true]
  simp
theorem done_path {f : FunL} {σ : Nat → Nat} (h : Dfs f σ) {t c : Nat} (ht : t < f.blocks.length) (p : Path f.blocks.length (wayP f) t c) : σ t = 2 → σ c = 2 ∧ c < f.blocks.length := by
  intro h2
  induction p with
  | refl => exact ⟨h2, ht⟩
  | step _ e hc ih => exact ⟨h.next _ _ ih.2 hc ih.1 e, hc⟩
theorem FoundTo.fin {f : FunL} {b : Nat} {σ σ1 : Nat → Nat} (hb : b < f.blocks.length) (h : FoundTo f b f.blocks[b].fin.to f.blocks[b].fin.to.length σ σ1) (h0 : σ b = 0) : Found f b σ (updN σ1 b 2) := by
  have hs : ∀ y, wayB f b y = true → σ1 y = 2 := fun y hy => by
    obtain ⟨x, hx, rfl⟩ := (way_mem hb).1 hy
    obtain ⟨i, hi, e⟩ := List.getElem_of_mem hx
    have h1 := h.done i hi hi
    rw [e] at h1
    simpa using h1
  have h2 : ∀ x, σ1 x = 2 → updN σ1 b 2 x = 2 := fun x hx => by
    by_cases e : x = b
    · subst e; exact updN_at _ _ _
    · rw [updN_ne _ _ e]; exact hx
  refine ⟨⟨fun x y hx hy h1 hw => ?_, fun x hx h1 => ?_⟩, updN_at _ _ _, fun x hx => h2 x (h.up x hx), fun x => ?_⟩
  · by_cases e : x = b
    · subst e; exact h2 y (hs y hw)
    · rw [updN_ne _ _ e] at h1
      exact h2 y (h.dfs.next x y hx hy h1 hw)
  · by_cases e : x = b
    · subst e
      cases hp : plusB f x x with
      | false => rfl
      | true =>
        obtain ⟨t, ht, hw, p⟩ := (plus_iff hx).1 hp
        have h3 := (done_path h.dfs ht p (hs t hw)).1
        have h4 := h.self
        omega
    · rw [updN_ne _ _ e] at h1
      exact h.dfs.none x hx h1
  · by_cases e : x = b
    · subst e; rw [updN_at, h0]; omega
    · rw [updN_ne _ _ e]; exact h.opn x e
/-- done already -/
theorem Found.had {f : FunL} {b : Nat} {σ : Nat → Nat} (h : Dfs f σ) (hb : σ b = 2) : Found f b σ σ := ⟨h, hb, fun _ hx => hx, fun _ => Iff.rfl⟩
/-- whoever is open leads to the next one too -/
theorem FoundTo.lead {f : FunL} {b : Nat} {m : Nat} {σ σ1 : Nat → Nat} (hb : b < f.blocks.length) (h : FoundTo f b f.blocks[b].fin.to m σ σ1) (hp : ∀ x, x < f.blocks.length → σ x = 1 → plusB f x b = true) {t : Nat} (ht : t < f.blocks.length) (hw : wayB f b t = true) : ∀ x, x < f.blocks.length → σ1 x = 1 → plusB f x t = true := fun x hx h1 => by
  by_cases e : x = b
  · subst e; exact plus_one ht hw
  · exact plus_snoc hb ht (hp x hx ((h.opn x e).1 h1)) hw
theorem round_yes {f : FunL} {b : Nat} (hb : b < f.blocks.length) (h : plusB f b b = true) : roundB f = true := List.any_eq_true.2 ⟨b, List.mem_range.2 hb, h⟩
theorem round_none {f : FunL} (h : ∀ b, b < f.blocks.length → plusB f b b = false) : roundB f = false := by
  cases e : roundB f with
  | false => rfl
  | true =>
    obtain ⟨b, hb, h1⟩ := List.any_eq_true.1 e
    rw [h b (List.mem_range.1 hb)] at h1
    cases h1

/-! the reference's: turn by turn -/
def cntN (n : Nat) (g : Nat → Bool) : Nat := ((List.range n).filter g).length
theorem cntN_succ (n : Nat) (g : Nat → Bool) : cntN (n + 1) g = cntN n g + (g n).toNat := by
  unfold cntN
  rw [List.range_succ, List.filter_append, List.length_append]
  cases h : g n <;> simp [h]
theorem cntN_le : ∀ (n : Nat) {g g' : Nat → Bool}, (∀ i, i < n → g i = true → g' i = true) → cntN n g ≤ cntN n g'
  | 0, g, g', _ => by simp [cntN]
  | n + 1, g, g', h => by
    have h1 := cntN_le n fun i hi => h i (by omega)
    have h2 := h n (by omega)
    rw [cntN_succ, cntN_succ]
    cases e : g n
    · simp; omega
    · rw [h2 e]; omega
theorem cntN_eq : ∀ (n : Nat) {g g' : Nat → Bool}, (∀ i, i < n → g i = true → g' i = true) → cntN n g' ≤ cntN n g → ∀ i, i < n → g' i = g i
  | 0, g, g', _, _, i, hi => by omega
  | n + 1, g, g', h, hc, i, hi => by
    have h1 := cntN_le n fun i hi => h i (by omega)
    have h2 := h n (by omega)
    rw [cntN_succ, cntN_succ] at hc
    have h3 : g' n = g n := by
      cases e : g n
      · cases e' : g' n
        · rfl
        · rw [e, e'] at hc; simp at hc; omega
      · exact h2 e
    by_cases e : i = n
    · rw [e]; exact h3
    · refine cntN_eq n (fun i hi => h i (by omega)) ?_ i (by omega)
      rw [h3] at hc
      omega
theorem cntN_all : ∀ (n : Nat) {g : Nat → Bool}, n ≤ cntN n g → ∀ i, i < n → g i = true := fun n g h i hi => by
  have h1 : cntN n (fun _ => true) ≤ cntN n g := by
    have : cntN n (fun _ => true) = n := by
      unfold cntN
      rw [List.filter_eq_self.2 (fun _ _ => rfl), List.length_range]
    omega
  exact (cntN_eq n (g := g) (g' := fun _ => true) (fun _ _ _ => rfl) h1 i hi).symm
/-- whatever leads on from there is had -/
def Closed (f : FunL) (a : Nat) (had : Nat → Bool) : Prop := ∀ b, b < f.blocks.length → (b = a ∨ had b = true) → ∀ t, t < f.blocks.length → wayB f b t = true → had t = true
/-- so many turns are done -/
structure TurnI (f : FunL) (a n : Nat) (had : Nat → Bool) : Prop where
  snd : ∀ x, x < f.blocks.length → had x = true → plusB f a x = true
  all : Closed f a had ∨ n ≤ cntN f.blocks.length had
/-- so many blocks of a turn are done -/
structure TurnB (f : FunL) (a k : Nat) (had had' : Nat → Bool) : Prop where
  snd : ∀ x, x < f.blocks.length → had' x = true → plusB f a x = true
  up : ∀ x, had x = true → had' x = true
  next : ∀ b, b < k → b < f.blocks.length → (b = a ∨ had b = true) → ∀ t, t < f.blocks.length → wayB f b t = true → had' t = true
/-- so many ways of a block are done -/
structure TurnW (f : FunL) (a k : Nat) (to : List Int) (j : Nat) (had had' : Nat → Bool) : Prop where
  snd : ∀ x, x < f.blocks.length → had' x = true → plusB f a x = true
  up : ∀ x, had x = true → had' x = true
  next : ∀ b, b < k → b < f.blocks.length → (b = a ∨ had b = true) → ∀ t, t < f.blocks.length → wayB f b t = true → had' t = true
  done : ∀ i (h : i < to.length), i < j → had' to[i].toNat = true
def setB (g : Nat → Bool) (t : Nat) : Nat → Bool := fun i => if i = t then true else g i
theorem TurnI.start {f : FunL} {a : Nat} : TurnI f a 0 (fun _ => false) := ⟨fun _ _ h => absurd h (by simp), .inr (Nat.zero_le _)⟩
theorem TurnB.start {f : FunL} {a n : Nat} {had : Nat → Bool} (h : TurnI f a n had) : TurnB f a 0 had had := ⟨h.snd, fun _ h => h, fun _ h => by omega⟩
theorem TurnB.skip {f : FunL} {a k : Nat} {had had' : Nat → Bool} (h : TurnB f a k had had') (h1 : k ≠ a) (h2 : had' k = false) : TurnB f a (k + 1) had had' :=
  ⟨h.snd, h.up, fun b hb hbl hc t ht hw => by
    by_cases e : b = k
    · subst e
      rcases hc with e | e
      · exact absurd e h1
      · have := h.up _ e; rw [h2] at this; cases this
    · exact h.next b (by omega) hbl hc t ht hw⟩
theorem TurnW.start {f : FunL} {a k : Nat} {to : List Int} {had had' : Nat → Bool} (h : TurnB f a k had had') : TurnW f a k to 0 had had' := ⟨h.snd, h.up, h.next, fun _ _ h => by omega⟩
theorem TurnW.succ {f : FunL} {a k j : Nat} {had had' : Nat → Bool} (hk : k < f.blocks.length) (h : TurnW f a k f.blocks[k].fin.to j had had') (hj : j < f.blocks[k].fin.to.length) (hc : k = a ∨ had' k = true) {t : Nat} (ht : t < f.blocks.length) (e : f.blocks[k].fin.to[j] = (t : Int)) : TurnW f a k f.blocks[k].fin.to (j + 1) had (setB had' t) := by
  have hw : wayB f k t = true := (way_mem hk).2 ⟨_, List.getElem_mem hj, e⟩
  have hup : ∀ x, had' x = true → setB had' t x = true := fun x hx => by unfold setB; split; rfl; exact hx
  refine ⟨fun x hx hh => ?_, fun x hx => hup x (h.up x hx), fun b hb hbl hc t' ht' hw' => hup _ (h.next b hb hbl hc t' ht' hw'), fun i hi hij => ?_⟩
  · unfold setB at hh
    by_cases e2 : x = t
    · subst e2
      rcases hc with e3 | e3
      · subst e3; exact plus_one ht hw
      · exact plus_snoc hk ht (h.snd k hk e3) hw
    · rw [if_neg e2] at hh
      exact h.snd x hx hh
  · by_cases e2 : i = j
    · subst e2
      rw [e]
      simp [setB]
    · exact hup _ (h.done i hi (by omega))
theorem TurnW.fin {f : FunL} {a k : Nat} {had had' : Nat → Bool} (hk : k < f.blocks.length) (h : TurnW f a k f.blocks[k].fin.to f.blocks[k].fin.to.length had had') : TurnB f a (k + 1) had had' :=
  ⟨h.snd, h.up, fun b hb hbl hc t ht hw => by
    by_cases e : b = k
    · subst e
      obtain ⟨x, hx, rfl⟩ := (way_mem hk).1 hw
      obtain ⟨i, hi, e⟩ := List.getElem_of_mem hx
      have h1 := h.done i hi hi
      rw [e] at h1
      simpa using h1
    · exact h.next b (by omega) hbl hc t ht hw⟩
theorem closed_all {f : FunL} {a : Nat} {had : Nat → Bool} (h : Closed f a had) (ha : a < f.blocks.length) {x : Nat} (hx : x < f.blocks.length) (hp : plusB f a x = true) : had x = true := by
  obtain ⟨t, ht, hw, p⟩ := (plus_iff hx).1 hp
  have h0 := h a ha (.inl rfl) t ht hw
  clear hp hw
  have : ∀ c, Path f.blocks.length (wayP f) t c → had c = true ∧ c < f.blocks.length := fun c p => by
    induction p with
    | refl => exact ⟨h0, ht⟩
    | step _ e hc ih => exact ⟨h _ ih.2 (.inr ih.1) _ hc e, hc⟩
  exact (this x p).1
theorem TurnB.fin {f : FunL} {a n : Nat} (ha : a < f.blocks.length) {had had' : Nat → Bool} (h0 : TurnI f a n had) (h : TurnB f a f.blocks.length had had') : TurnI f a (n + 1) had' := by
  refine ⟨h.snd, ?_⟩
  rcases Nat.lt_or_ge (cntN f.blocks.length had) (cntN f.blocks.length had') with g | g
  · rcases h0.all with hc | hc
    · have := cntN_le f.blocks.length (g := had') (g' := had) fun i hi hh => closed_all hc ha hi (h.snd i hi hh)
      omega
    · exact .inr (by omega)
  · have e := cntN_eq f.blocks.length (fun i _ => h.up i) g
    refine .inl fun b hb hc t ht hw => h.next b hb hb ?_ t ht hw
    rw [← e b hb]
    exact hc
theorem TurnI.fin {f : FunL} {a : Nat} (ha : a < f.blocks.length) {had : Nat → Bool} (h : TurnI f a f.blocks.length had) : had a = plusB f a a := by
  have hc : Closed f a had := by
    rcases h.all with hc | hc
    · exact hc
    · exact fun _ _ _ t ht _ => cntN_all _ hc t ht
  cases e : plusB f a a with
  | true => exact closed_all hc ha ha e
  | false =>
    cases e2 : had a with
    | false => rfl
    | true => rw [h.snd a ha e2] at e; cases e
end Go.Proofs.YtlalmbklhmpngaaDoor
