/-
  Plain: a table of rows of numbers in a world; the marks of loops over iterators at a function's end.
  slices.Sort and slices.Compact of a row of numbers that the call itself has built.
  The contract of calls.graph.
  Plain: the call graph of a unit without faults is the reference's.
  The contracts of pure.words, pure.May, turneryref5.WordsOf, turneryref5.PureEnds, turnerysame.Fault.
  Plain: depth first, what is visited; the unvisited ones, counted.
  Plain: the tree of blocks that rule others, made in rounds: why the rounds end.
  Plain: dom.TreeOf, turn by turn: the best of the ways in, and what falls with each change.
  Plain: values, instructions, phis, blocks, functions and globals in memory of the call's own.
  The contracts of dom.meet and dom.Rules.
-/
import Derived.Deep.OwnRows
import Derived.Test.YtdjamkinijhjoaaDoorJCalG
import Derived.Test.YtdjamkinijhjoaaDoorJOwnA
import Derived.Lib.OwnBridge
import Derived.Sort.OwnSortedInts
import Derived.WalkKit
import Derived.WalkSpells
import Derived.WalkLawsBesides
import Derived.Shelf.Sort.Plain
import Derived.Shelf.Slices.CompactI
import Derived.Shelf.Slices.In.SortNone
import Derived.BigQuiet
import Derived.Deep.QuietTactic
import Derived.Deep.RegionHeld3
import Derived.RangeFuncFrom
import Derived.Test.YtdjamkinijhjoaaDoorJDatD
namespace Go.Proofs.YtdjamkinijhjoaaDoor
open Go.RowKit Go.Shelf

/-- the marks that loops over iterators leave on a function under way -/
def marks (Ds : List Nat) : List Deferred := Ds.map fun D => { target := .collected D, args := #[] }
theorem leaves_marks {F : Fence} {n : Nat} {P : Program} {fn : Func} {tmps : Array Value} {R : Ending → World → Prop} (B : Nat) : ∀ (Ds : List Nat) (w : World), Ds.Nodup → (∀ D ∈ Ds, B ≤ D ∧ w.heap[D]? = some (.deferred (some []))) →
    (∀ w', w'.os = w.os → w'.tape = w.tape → w'.output = w.output → w.heap.size ≤ w'.heap.size → (∀ k, k ∉ Ds → w'.heap[k]? = w.heap[k]?) → ∃ v, (results fn tmps).run P w' = .ok v w' ∧ R (.returned v) w') → LeavesInM F n P fn tmps R (marks Ds) .returning w
  | [], w, _, _, h => h w rfl rfl rfl (Nat.le_refl _) (fun _ _ => rfl)
  | D :: Ds, w, hn, hD, h => by
    obtain ⟨hn1, hn2⟩ := List.nodup_cons.1 hn
    refine ⟨by simp, .inl ⟨D, _, rfl, run_takeDeferred (hD D List.mem_cons_self).2, ?_⟩⟩
    refine leaves_marks B Ds _ hn2 (fun E hE => ?_) (fun w' h1 h2 h3 h4 h5 => ?_)
    · obtain ⟨a, b⟩ := hD E (List.mem_cons_of_mem _ hE)
      exact ⟨a, (World.putObj_heap_other (fun e => hn1 (by rw [← e]; exact hE))).trans b⟩
    · refine h w' h1 h2 h3 (by simpa using h4) (fun k hk => ?_)
      rw [h5 k (fun hh => hk (List.mem_cons_of_mem _ hh))]
      exact World.putObj_heap_other (fun e => hk (by rw [e]; exact List.mem_cons_self))
end Go.Proofs.YtdjamkinijhjoaaDoor
namespace Go.Proofs.YtdjamkinijhjoaaDoor
open Go.RowKit Go.Shelf Go.Lib Go.Sort

theorem putRow_grown {w : World} {g q : Nat} {d : Array Int} : w.grownBy (putRow (Value.int .i64) (Sort.ahead w q) g 0 d) (some g) := by
  refine ⟨rfl, rfl, rfl, by simp [putRow, mapBlock, Sort.ahead], fun k _ hne => ?_⟩
  have : g ≠ k := fun e => hne (by rw [e])
  simp [putRow, mapBlock, Sort.ahead, Array.getElem?_modify, this]
end Go.Proofs.YtdjamkinijhjoaaDoor
namespace Go.Proofs.YtdjamkinijhjoaaDoor
open Go.RowKit Go.Shelf
attribute [local go_sem] Oper.semAt_some

theorem infoInt3 : (Tryd.prog.info? 3).map (fun i => (i.zero, i.size, i.bytes)) = some (some (.int .i64 0), 1, 8) := by kernel_rfl
theorem underInts3 : Tryd.prog.underlying 46 = some (.slice 3) := by kernel_rfl
end Go.Proofs.YtdjamkinijhjoaaDoor
namespace Go.Proofs.YtdjamkinijhjoaaDoor
open Go.RowKit Go.Lib

theorem ChkOk.ins {u : UniL} (h : ChkOk u) {k : Nat} (hk : k < u.funcs.length) : ∀ i ∈ allIns u.funcs[k], insL u u.funcs[k] i = 0 := by
  intro i hi
  have hb := h.body k hk
  unfold bodyI at hb
  rw [List.getElem?_eq_getElem hk] at hb
  simp only at hb
  unfold bodyE at hb
  split at hb
  · obtain ⟨b, hbm, him⟩ := List.mem_flatMap.1 hi
    obtain ⟨j, hj, rfl⟩ := List.getElem_of_mem hbm
    have hbj := firstE_all hb (blkI u u.funcs[k] j) (List.mem_map.2 ⟨j, List.mem_range.2 hj, rfl⟩)
    unfold blkI at hbj
    rw [List.getElem?_eq_getElem hj] at hbj
    simp only at hbj
    unfold blkE at hbj
    split at hbj
    · exact firstE_all hbj _ (List.mem_map.2 ⟨i, him, rfl⟩)
    · rename_i hne
      exact absurd hbj hne
  · rename_i hne
    exact absurd hb hne
end Go.Proofs.YtdjamkinijhjoaaDoor
namespace Go.Proofs.YtdjamkinijhjoaaDoor
open Go.RowKit

theorem fault_any (c a : Int) (w : World) :
    Calls Tryd.prog 11 #[.int .i64 c, .int .i64 a] w fun e w' => e = .returned (.agg #[.int .i64 c, .int .i64 a]) ∧ w' = w.alloc (.cells #[.int .i64 c, .int .i64 a] 28) := by
  go_enter Tryd.func11, Tryd.ntmps11
  go_wp2
  refine bodyPost_ret ?_ rfl ⟨rfl, rfl⟩
  simp [results, Tryd.results11, go_sem]
end Go.Proofs.YtdjamkinijhjoaaDoor
namespace Go.Proofs.YtdjamkinijhjoaaDoor

/-- how many are not visited -/
def leftN (n : Nat) (had : Nat → Bool) : Nat := ((List.range n).filter fun j => !had j).length
theorem filter_mono {p q : Nat → Bool} : ∀ (l : List Nat), (∀ x ∈ l, p x = true → q x = true) → (l.filter p).length ≤ (l.filter q).length
  | [], _ => by simp
  | a :: l, h => by
    have ih := filter_mono l (fun x hx => h x (List.mem_cons_of_mem _ hx))
    have ha := h a List.mem_cons_self
    by_cases hp : p a = true
    · rw [List.filter_cons_of_pos hp, List.filter_cons_of_pos (ha hp)]
      simpa using ih
    · rw [List.filter_cons_of_neg hp]
      by_cases hq : q a = true
      · rw [List.filter_cons_of_pos hq]; simp; omega
      · rw [List.filter_cons_of_neg hq]; exact ih
theorem filter_less {p q : Nat → Bool} {k : Nat} : ∀ (l : List Nat), (∀ x ∈ l, p x = true → q x = true) → k ∈ l → p k = false → q k = true → (l.filter p).length < (l.filter q).length
  | [], _, h, _, _ => by cases h
  | a :: l, h, hk, h1, h2 => by
    have ha := h a List.mem_cons_self
    rcases List.mem_cons.1 hk with e | hk2
    · subst e
      have ih := filter_mono l (fun x hx => h x (List.mem_cons_of_mem _ hx))
      rw [List.filter_cons_of_neg (by simp [h1]), List.filter_cons_of_pos h2]
      simp; omega
    · have ih := filter_less l (fun x hx => h x (List.mem_cons_of_mem _ hx)) hk2 h1 h2
      by_cases hp : p a = true
      · rw [List.filter_cons_of_pos hp, List.filter_cons_of_pos (ha hp)]
        simpa using ih
      · rw [List.filter_cons_of_neg hp]
        by_cases hq : q a = true
        · rw [List.filter_cons_of_pos hq]; simp; omega
        · rw [List.filter_cons_of_neg hq]; exact ih
theorem leftN_mono {n : Nat} {p q : Nat → Bool} (h : ∀ j, p j = true → q j = true) : leftN n q ≤ leftN n p :=
  filter_mono _ fun x _ hx => by
    cases hp : p x with
    | false => rfl
    | true => rw [h x hp] at hx; cases hx
theorem leftN_less {n k : Nat} {p q : Nat → Bool} (h : ∀ j, p j = true → q j = true) (hk : k < n) (h1 : p k = false) (h2 : q k = true) : leftN n q < leftN n p := by
  refine filter_less (k := k) _ (fun x _ hx => ?_) (List.mem_range.2 hk) (by simp [h2]) (by simp [h1])
  cases hp : p x with
  | false => rfl
  | true => rw [h x hp] at hx; cases hx

end Go.Proofs.YtdjamkinijhjoaaDoor
namespace Go.Proofs.YtdjamkinijhjoaaDoor

/-- x lies on the way up from c -/
inductive Ch (up : Nat → Nat) : Nat → Nat → Prop where
  | refl (c) : Ch up c c
  | step {c x} : c ≠ 0 → Ch up (up c) x → Ch up c x

/-- the blocks that are reached, by their places; what is made -/
structure DomI (R : Nat → Prop) (pl : Nat → Nat) (mk : Nat → Prop) (up : Nat → Nat) : Prop where
  one : ∀ a b, R a → R b → pl a = pl b → a = b
  root : R 0
  rootAt : pl 0 = 0
  mk0 : mk 0
  up0 : up 0 = 0
  reach : ∀ c, mk c → R c
  mkUp : ∀ c, mk c → mk (up c)
  less : ∀ c, mk c → c ≠ 0 → pl (up c) < pl c

section
variable {R : Nat → Prop} {pl : Nat → Nat} {mk : Nat → Prop} {up : Nat → Nat}

theorem DomI.pos (h : DomI R pl mk up) {c : Nat} (hc : R c) (h0 : c ≠ 0) : 0 < pl c := by
  rcases Nat.eq_zero_or_pos (pl c) with e | e
  · exact absurd (h.one _ _ hc h.root (by rw [e, h.rootAt])) h0
  · exact e
theorem Ch.trans {a b c : Nat} (h : Ch up a b) (h2 : Ch up b c) : Ch up a c := by
  induction h with
  | refl => exact h2
  | step h0 _ ih => exact .step h0 (ih h2)
theorem DomI.ch (h : DomI R pl mk up) {c x : Nat} (hx : Ch up c x) : mk c → mk x ∧ pl x ≤ pl c := by
  induction hx with
  | refl => intro hc; exact ⟨hc, Nat.le_refl _⟩
  | step h0 _ ih =>
    intro hc
    have h1 := ih (h.mkUp _ hc)
    have h2 := h.less _ hc h0
    exact ⟨h1.1, by omega⟩
theorem DomI.chLess (h : DomI R pl mk up) {c x : Nat} (hc : mk c) (hx : Ch up c x) (hne : x ≠ c) : pl x < pl c := by
  cases hx with
  | refl => exact absurd rfl hne
  | step h0 h1 =>
    have h2 := h.less _ hc h0
    have h3 := (h.ch h1 (h.mkUp _ hc)).2
    omega
/-- of two on one way up the further one lies on the way up from the nearer one -/
theorem DomI.line (h : DomI R pl mk up) {c x y : Nat} (hx : Ch up c x) : mk c → Ch up c y → pl y ≤ pl x → Ch up x y := by
  induction hx with
  | refl => intro _ hy _; exact hy
  | step h0 h1 ih =>
    intro hc hy hl
    cases hy with
    | refl =>
      have h2 := h.less _ hc h0
      have h3 := (h.ch h1 (h.mkUp _ hc)).2
      omega
    | step _ hy => exact ih (h.mkUp _ hc) hy hl
/-- where two ways up meet: what both have -/
structure Meets (up : Nat → Nat) (a b m : Nat) : Prop where
  left : Ch up a m
  right : Ch up b m
  all : ∀ x, Ch up a x → Ch up b x → Ch up m x

/-- dom.meet, turn by turn -/
def meetN (up pl : Nat → Nat) : Nat → Nat → Nat → Nat
  | 0, a, _ => a
  | k + 1, a, b => if a = b then a else if pl a < pl b then meetN up pl k (up b) a else meetN up pl k (up a) b

theorem DomI.meet (h : DomI R pl mk up) : ∀ (k a b : Nat), pl a + pl b < k → mk a → mk b → Meets up a b (meetN up pl k a b)
  | 0, _, _, hk, _, _ => by omega
  | k + 1, a, b, hk, ha, hb => by
    unfold meetN
    by_cases e : a = b
    · subst e
      rw [if_pos rfl]
      exact ⟨.refl _, .refl _, fun x hx _ => hx⟩
    · have hne : pl a ≠ pl b := fun e2 => e (h.one _ _ (h.reach _ ha) (h.reach _ hb) e2)
      rw [if_neg e]
      by_cases hl : pl a < pl b
      · have hb0 : b ≠ 0 := fun e0 => by
          rw [e0, h.rootAt] at hl; omega
        have h2 := h.less _ hb hb0
        rw [if_pos hl]
        have ih := h.meet k (up b) a (by omega) (h.mkUp _ hb) ha
        refine ⟨ih.right, .step hb0 ih.left, fun x hx hy => ih.all x ?_ hx⟩
        cases hy with
        | refl => have := (h.ch hx ha).2; omega
        | step _ hy => exact hy
      · have ha0 : a ≠ 0 := fun e0 => by
          rw [e0, h.rootAt] at hl hne; omega
        have h2 := h.less _ ha ha0
        rw [if_neg hl]
        have ih := h.meet k (up a) b (by omega) (h.mkUp _ ha) hb
        refine ⟨.step ha0 ih.left, ih.right, fun x hx hy => ih.all x ?_ hy⟩
        cases hx with
        | refl => have := (h.ch hy hb).2; omega
        | step _ hx => exact hx

/-- with one parent anew -/
def putUp (up : Nat → Nat) (c m : Nat) (a : Nat) : Nat := if a = c then m else up a
theorem putUp_self {c m : Nat} : putUp up c m c = m := by simp [putUp]
theorem putUp_other {c m a : Nat} (h : a ≠ c) : putUp up c m a = up a := by simp [putUp, h]

/-- ahead of the turn of place j -/
structure DomJ (R : Nat → Prop) (pl : Nat → Nat) (ins : Nat → List Nat) (par : Nat → Nat) (j : Nat) (mk : Nat → Prop) (up : Nat → Nat) : Prop extends DomI R pl mk up where
  parIn : ∀ c, R c → c ≠ 0 → par c ∈ ins c ∧ R (par c) ∧ pl (par c) < pl c
  down : ∀ c d, mk c → R d → pl d ≤ pl c → mk d
  past : ∀ d, R d → pl d < j → mk d
  two : ∀ c, mk c → c ≠ 0 → ∀ x, (∀ p ∈ ins c, mk p → Ch up p x) → pl x ≤ pl (up c)
  calm : ∀ c, mk c → c ≠ 0 → (j ≤ pl (up c) ∨ pl c < j) → Ch up (par c) (up c)
  busy : ∀ c, mk c → c ≠ 0 → pl (up c) < j → j ≤ pl c → ∀ x, Ch up (par c) x → pl x ≤ pl (up c) → Ch up (up c) x

/-- the best of all ways in that are made -/
structure BestOf (ins : Nat → List Nat) (mk : Nat → Prop) (up : Nat → Nat) (c m : Nat) : Prop where
  on : ∀ p ∈ ins c, mk p → Ch up p m
  all : ∀ x, (∀ p ∈ ins c, mk p → Ch up p x) → Ch up m x

variable {ins : Nat → List Nat} {par : Nat → Nat} {j : Nat}

/-- made before: a change goes up -/
theorem DomJ.rise (h : DomJ R pl ins par j mk up) {c m : Nat} (hj : pl c = j) (h0 : c ≠ 0) (hb : BestOf ins mk up c m) (hc : mk c) : Ch up (up c) m := by
  have hl := h.less _ hc h0
  obtain ⟨h1, h2, h3⟩ := h.parIn c (h.reach _ hc) h0
  have hp : mk (par c) := h.past _ h2 (by omega)
  exact h.busy c hc h0 (by omega) (by omega) m (hb.on _ h1 hp) (h.two c hc h0 m hb.on)

theorem DomJ.turn (h : DomJ R pl ins par j mk up) {c m : Nat} (hR : R c) (hj : pl c = j) (h0 : c ≠ 0) (hb : BestOf ins mk up c m) :
    DomJ R pl ins par (j + 1) (fun a => a = c ∨ mk a) (putUp up c m) := by
  obtain ⟨q1, q2, q3⟩ := h.parIn c hR h0
  have hp : mk (par c) := h.past _ q2 (by omega)
  have hm := h.ch (hb.on _ q1 hp) hp
  -- ways up only shrink
  have shrink : ∀ a x, Ch (putUp up c m) a x → mk a → Ch up a x := by
    intro a x hx
    induction hx with
    | refl => intro _; exact .refl _
    | @step a x ha0 _ ih =>
      intro ha
      by_cases e : a = c
      · subst e
        rw [putUp_self] at ih
        exact .step ha0 ((h.rise hj h0 hb ha).trans (ih hm.1))
      · rw [putUp_other e] at ih
        exact .step ha0 (ih (h.mkUp _ ha))
  have keep : ∀ a x, Ch up a x → mk a → (pl c ≤ pl x ∨ pl a < pl c) → Ch (putUp up c m) a x := by
    intro a x hx
    induction hx with
    | refl => intro _ _; exact .refl _
    | @step a x ha0 hx ih =>
      intro ha hor
      have h1 := h.less _ ha ha0
      have h2 := (h.ch hx (h.mkUp _ ha)).2
      have e : a ≠ c := fun e => by subst e; omega
      refine .step ha0 ?_
      rw [putUp_other e]
      exact ih (h.mkUp _ ha) (by omega)
  have base : DomI R pl (fun a => a = c ∨ mk a) (putUp up c m) := {
    one := h.one, root := h.root, rootAt := h.rootAt, mk0 := .inr h.mk0
    up0 := by rw [putUp_other (Ne.symm h0)]; exact h.up0
    reach := fun a ha => by
      rcases ha with e | ha
      · rw [e]; exact hR
      · exact h.reach _ ha
    mkUp := fun a ha => by
      by_cases e : a = c
      · rw [e, putUp_self]; exact .inr hm.1
      · rw [putUp_other e]
        exact .inr (h.mkUp _ (ha.resolve_left e))
    less := fun a ha ha0 => by
      by_cases e : a = c
      · rw [e, putUp_self]; omega
      · rw [putUp_other e]
        exact h.less _ (ha.resolve_left e) ha0 }
  refine { base with parIn := h.parIn, down := ?_, past := ?_, two := ?_, calm := ?_, busy := ?_ }
  · intro a d ha hd hl
    rcases ha with e | ha
    · subst e
      by_cases e : d = a
      · exact .inl e
      · have : pl d ≠ pl a := fun e2 => e (h.one _ _ hd hR e2)
        exact .inr (h.past _ hd (by omega))
    · exact .inr (h.down _ _ ha hd hl)
  · intro d hd hl
    by_cases e : d = c
    · exact .inl e
    · have : pl d ≠ pl c := fun e2 => e (h.one _ _ hd hR e2)
      exact .inr (h.past _ hd (by omega))
  · intro a ha ha0 x hx
    have hx2 : ∀ p ∈ ins a, mk p → Ch up p x := fun p hp hmp => shrink _ _ (hx p hp (.inr hmp)) hmp
    by_cases e : a = c
    · subst e
      rw [putUp_self]
      exact (h.ch (hb.all x hx2) hm.1).2
    · rw [putUp_other e]
      exact h.two a (ha.resolve_left e) ha0 x hx2
  · intro a ha ha0 hor
    by_cases e : a = c
    · subst e
      rw [putUp_self]
      exact keep _ _ (hb.on _ q1 hp) hp (.inr q3)
    · have ha := ha.resolve_left e
      rw [putUp_other e] at hor ⊢
      have hne : pl a ≠ pl c := fun e2 => e (h.one _ _ (h.reach _ ha) hR e2)
      obtain ⟨r1, r2, r3⟩ := h.parIn a (h.reach _ ha) ha0
      have hmp : mk (par a) := h.down _ _ ha r2 (by omega)
      exact keep _ _ (h.calm a ha ha0 (by omega)) hmp (by omega)
  · intro a ha ha0 h1 h2 x hx hl
    by_cases e : a = c
    · subst e; omega
    · have ha := ha.resolve_left e
      rw [putUp_other e] at h1 hl ⊢
      obtain ⟨r1, r2, r3⟩ := h.parIn a (h.reach _ ha) ha0
      have hmp : mk (par a) := h.down _ _ ha r2 (by omega)
      have hmu := h.mkUp _ ha
      by_cases hv : pl (up a) < j
      · exact keep _ _ (h.busy a ha ha0 hv (by omega) x (shrink _ _ hx hmp) hl) hmu (by omega)
      · exact base.line (keep _ _ (h.calm a ha ha0 (by omega)) hmp (by omega)) (.inr hmp) hx hl

/-- a round is over: the next one begins at place 1 -/
theorem DomJ.wrap {n : Nat} (h : DomJ R pl ins par n mk up) (hn : ∀ c, R c → pl c < n) : DomJ R pl ins par 1 mk up := by
  refine { h with past := fun d hd _ => h.past _ hd (hn _ hd), calm := ?_, busy := ?_ }
  · intro c hc h0 _
    exact h.calm c hc h0 (.inr (hn _ (h.reach _ hc)))
  · intro c hc h0 h1 _ x hx hl
    obtain ⟨r1, r2, r3⟩ := h.parIn c (h.reach _ hc) h0
    have hmp : mk (par c) := h.down _ _ hc r2 (by omega)
    have hmx := (h.ch hx hmp).1
    have e1 : up c = x := h.one _ _ (h.reach _ (h.mkUp _ hc)) (h.reach _ hmx) (by omega)
    rw [e1]; exact .refl _

/-- at the outset: only the root is made -/
theorem DomJ.start (one : ∀ a b, R a → R b → pl a = pl b → a = b) (root : R 0) (rootAt : pl 0 = 0) (hpar : ∀ c, R c → c ≠ 0 → par c ∈ ins c ∧ R (par c) ∧ pl (par c) < pl c) (hu : up 0 = 0) :
    DomJ R pl ins par 1 (fun a => a = 0) up where
  one := one
  root := root
  rootAt := rootAt
  mk0 := rfl
  up0 := hu
  reach := fun c hc => by rw [hc]; exact root
  mkUp := fun c hc => by rw [hc]; exact hu
  less := fun c hc h0 => absurd hc h0
  parIn := hpar
  down := fun c d hc hd hl => one _ _ hd root (by rw [hc] at hl; omega)
  past := fun d hd hl => one _ _ hd root (by omega)
  two := fun c hc h0 => absurd hc h0
  calm := fun c hc h0 => absurd hc h0
  busy := fun c hc h0 => absurd hc h0
end
end Go.Proofs.YtdjamkinijhjoaaDoor
namespace Go.Proofs.YtdjamkinijhjoaaDoor

/-- parents as the code keeps them: below 0 not made -/
def upN (u : Nat → Int) (c : Nat) : Nat := (u c).toNat
def mkN (u : Nat → Int) (c : Nat) : Prop := 0 ≤ u c
/-- with one written anew -/
def putI (u : Nat → Int) (c : Nat) (m : Int) (a : Nat) : Int := if a = c then m else u a
/-- one way in -/
def bestI (u : Nat → Int) (pl : Nat → Nat) (b : Int) (p : Nat) : Int :=
  if u p < 0 then b else if b < 0 then (p : Int) else (meetN (upN u) pl (pl b.toNat + pl p + 1) b.toNat p : Nat)
/-- all ways in -/
def bestsI (u : Nat → Int) (pl : Nat → Nat) (l : List Nat) : Int := l.foldl (bestI u pl) (-1)

section
variable {R : Nat → Prop} {pl : Nat → Nat} {u : Nat → Int}

/-- what a best one is, of some ways in, and one had before -/
structure BestTo (u : Nat → Int) (b : Int) (l : List Nat) (r : Int) : Prop where
  made : 0 ≤ r ∧ mkN u r.toNat
  had : 0 ≤ b → Ch (upN u) b.toNat r.toNat
  on : ∀ p ∈ l, mkN u p → Ch (upN u) p r.toNat
  all : ∀ x, (0 ≤ b → Ch (upN u) b.toNat x) → (∀ p ∈ l, mkN u p → Ch (upN u) p x) → Ch (upN u) r.toNat x

theorem DomI.bests (h : DomI R pl (mkN u) (upN u)) : ∀ (l : List Nat) (b : Int), (0 ≤ b → mkN u b.toNat) → (0 ≤ b ∨ ∃ p ∈ l, mkN u p) → BestTo u b l (l.foldl (bestI u pl) b)
  | [], b, hb, hor => by
    have h0 : 0 ≤ b := hor.resolve_right (by simp)
    exact ⟨⟨h0, hb h0⟩, fun _ => .refl _, (by simp), fun x hx _ => hx h0⟩
  | p :: l, b, hb, hor => by
    show BestTo u b (p :: l) (l.foldl (bestI u pl) (bestI u pl b p))
    by_cases hp : u p < 0
    · have e : bestI u pl b p = b := by unfold bestI; rw [if_pos hp]
      have np : ¬ mkN u p := fun hm => by unfold mkN at hm; omega
      rw [e]
      have ih := h.bests l b hb (by
        rcases hor with h0 | ⟨q, hq, hm⟩
        · exact .inl h0
        · rcases List.mem_cons.1 hq with e | hq
          · subst e; exact absurd hm np
          · exact .inr ⟨q, hq, hm⟩)
      refine ⟨ih.made, ih.had, fun q hq hm => ?_, fun x h1 h2 => ih.all x h1 fun q hq => h2 q (List.mem_cons_of_mem _ hq)⟩
      rcases List.mem_cons.1 hq with e | hq
      · subst e; exact absurd hm np
      · exact ih.on q hq hm
    · have hm : mkN u p := by unfold mkN; omega
      by_cases h0 : b < 0
      · have e : bestI u pl b p = (p : Int) := by unfold bestI; rw [if_neg hp, if_pos h0]
        rw [e]
        have ih := h.bests l (p : Int) (fun _ => hm) (.inl (by omega))
        refine ⟨ih.made, fun hb0 => by omega, fun q hq hmq => ?_, fun x _ h2 => ih.all x (fun _ => h2 p List.mem_cons_self hm) fun q hq => h2 q (List.mem_cons_of_mem _ hq)⟩
        rcases List.mem_cons.1 hq with e | hq
        · subst e; exact ih.had (by omega)
        · exact ih.on q hq hmq
      · have hb0 : 0 ≤ b := by omega
        have hmb := hb hb0
        have hmeet := h.meet (pl b.toNat + pl p + 1) b.toNat p (by omega) hmb hm
        have e : bestI u pl b p = ((meetN (upN u) pl (pl b.toNat + pl p + 1) b.toNat p : Nat) : Int) := by unfold bestI; rw [if_neg hp, if_neg h0]
        rw [e]
        generalize meetN (upN u) pl (pl b.toNat + pl p + 1) b.toNat p = m at hmeet
        have hmm := (h.ch hmeet.right hm).1
        have ih := h.bests l (m : Int) (fun _ => hmm) (.inl (by omega))
        have hh : Ch (upN u) m (l.foldl (bestI u pl) (m : Int)).toNat := ih.had (by omega)
        refine ⟨ih.made, fun _ => hmeet.left.trans hh, fun q hq hmq => ?_, fun x h1 h2 => ih.all x (fun _ => hmeet.all x (h1 hb0) (h2 p List.mem_cons_self hm)) fun q hq => h2 q (List.mem_cons_of_mem _ hq)⟩
        rcases List.mem_cons.1 hq with e | hq
        · subst e; exact hmeet.right.trans hh
        · exact ih.on q hq hmq

variable {ins : Nat → List Nat} {par : Nat → Nat} {j : Nat}
/-- the best one of a turn -/
theorem DomJ.best (h : DomJ R pl ins par j (mkN u) (upN u)) {c : Nat} (hR : R c) (hj : pl c = j) (h0 : c ≠ 0) :
    ∃ m : Nat, bestsI u pl (ins c) = (m : Int) ∧ BestOf ins (mkN u) (upN u) c m ∧ mkN u m ∧ pl m < pl c := by
  obtain ⟨q1, q2, q3⟩ := h.parIn c hR h0
  have hp : mkN u (par c) := h.past _ q2 (by omega)
  have hb := h.bests (ins c) (-1) (fun hn => by omega) (.inr ⟨_, q1, hp⟩)
  refine ⟨(bestsI u pl (ins c)).toNat, ?_, ⟨hb.on, fun x hx => hb.all x (fun hn => by omega) hx⟩, hb.made.2, ?_⟩
  · have := hb.made.1
    unfold bestsI
    omega
  · have := (h.ch (hb.on _ q1 hp) hp).2
    unfold bestsI
    omega

/-- how far all parents are from the root: falls with each change -/
def rankU (pl : Nat → Nat) (n : Nat) (u : Nat → Int) (c : Nat) : Nat := if u c < 0 then n else pl (u c).toNat
def ranks (pl : Nat → Nat) (n : Nat) (l : List Nat) (u : Nat → Int) : Nat := (l.map (rankU pl n u)).sum

theorem rank_put_other {n c a : Nat} {m : Int} (h : a ≠ c) : rankU pl n (putI u c m) a = rankU pl n u a := by
  unfold rankU putI; simp [h]
theorem rank_put_self {n c : Nat} {m : Nat} : rankU pl n (putI u c (m : Int)) c = pl m := by
  unfold rankU putI
  rw [if_pos rfl, if_neg (by omega)]
  rfl
theorem ranks_le {n c m : Nat} (hle : pl m ≤ rankU pl n u c) : ∀ l : List Nat, ranks pl n l (putI u c (m : Int)) ≤ ranks pl n l u
  | [] => Nat.le_refl _
  | a :: l => by
    have ih := ranks_le hle l
    unfold ranks at ih ⊢
    simp only [List.map_cons, List.sum_cons]
    by_cases e : a = c
    · subst e; rw [rank_put_self]; omega
    · rw [rank_put_other e]; omega
theorem ranks_lt {n c m : Nat} (hle : pl m < rankU pl n u c) : ∀ l : List Nat, c ∈ l → ranks pl n l (putI u c (m : Int)) < ranks pl n l u
  | [], hc => by cases hc
  | a :: l, hc => by
    have ih0 := ranks_le (Nat.le_of_lt hle) l
    have ih : c ∈ l → _ := ranks_lt hle l
    unfold ranks at ih ih0 ⊢
    simp only [List.map_cons, List.sum_cons]
    by_cases e : a = c
    · subst e; rw [rank_put_self]; omega
    · rw [rank_put_other e]
      have := ih ((List.mem_cons.1 hc).resolve_left (fun h => e h.symm))
      omega

/-- a turn: either all stays, or the ranks fall -/
theorem DomJ.falls {n : Nat} (h : DomJ R pl ins par j (mkN u) (upN u)) (hn : ∀ c, R c → pl c < n) {c m : Nat} (hR : R c) (hj : pl c = j) (h0 : c ≠ 0) (hb : BestOf ins (mkN u) (upN u) c m) (hlt : pl m < pl c) (hne : u c ≠ (m : Int)) (l : List Nat) (hc : c ∈ l) :
    ranks pl n l (putI u c (m : Int)) < ranks pl n l u := by
  refine ranks_lt ?_ l hc
  unfold rankU
  by_cases hu : u c < 0
  · rw [if_pos hu]
    have := hn c hR
    omega
  · rw [if_neg hu]
    have hm : mkN u c := by unfold mkN; omega
    refine h.chLess (h.mkUp _ hm) (h.rise hj h0 hb hm) fun e => hne ?_
    unfold upN at e
    omega

theorem mkN_put {c : Nat} {m : Nat} : mkN (putI u c (m : Int)) = fun a => a = c ∨ mkN u a := by
  funext a
  unfold mkN putI
  by_cases e : a = c
  · simp [e]
  · simp [e]
theorem upN_put {c : Nat} {m : Nat} : upN (putI u c (m : Int)) = putUp (upN u) c m := by
  funext a
  unfold upN putI putUp
  by_cases e : a = c <;> simp [e]
theorem DomJ.turnI (h : DomJ R pl ins par j (mkN u) (upN u)) {c m : Nat} (hR : R c) (hj : pl c = j) (h0 : c ≠ 0) (hb : BestOf ins (mkN u) (upN u) c m) :
    DomJ R pl ins par (j + 1) (mkN (putI u c (m : Int))) (upN (putI u c (m : Int))) := by
  rw [mkN_put, upN_put]
  exact h.turn hR hj h0 hb
theorem putI_same {c : Nat} : putI u c (u c) = u := by
  funext a
  unfold putI
  by_cases e : a = c <;> simp [e]
end
end Go.Proofs.YtdjamkinijhjoaaDoor
namespace Go.Proofs.YtdjamkinijhjoaaDoor
open Go.RowKit

theorem SlO.read {α : Type} {e : TypeId} {size : Nat} {R : ElemO α} {R' : List Value → α → Prop} {w : World} {v : Value} {xs : List α} {S : Blks} (hR : LocO R) (hsz : 0 < size) (h : SlO e size R w v xs S) (hr : ∀ cs x T, R w cs x T → R' cs x) :
    ∃ p c, v = .slice p xs.length c ∧ (p = none → xs.length = 0 ∧ c = 0) ∧ xs.length ≤ c ∧ SliceAt w size R' p xs := by
  obtain ⟨p, c, hv, h1, h2⟩ := h.val
  refine ⟨p, c, hv, h1, h2, ?_⟩
  rcases Nat.eq_zero_or_pos xs.length with h0 | h0
  · exact .inl (List.length_eq_zero_iff.1 h0)
  · obtain ⟨g, c', cs, T, hv', _⟩ := h.focus hR hsz h0
    rw [hv] at hv'
    injection hv' with hp _ _
    subst hp
    refine .inr ⟨g, 0, rfl, fun i hi => ?_⟩
    obtain ⟨g2, c2, cs2, T2, hv2, _, _, hl, hx, _, _, hc, _⟩ := h.focus hR hsz hi
    rw [hv] at hv2
    injection hv2 with hp2 _ _
    cases hp2
    refine ⟨cs2, hl, fun j hj => ?_, hr _ _ _ hx⟩
    rw [Nat.zero_add]
    exact hc j hj
end Go.Proofs.YtdjamkinijhjoaaDoor
namespace Go.Proofs.YtdjamkinijhjoaaDoor
open Go.RowKit

/-- the rows of the tree: parents and places -/
structure TreeW (w : World) (U P n : Nat) (t : TypeId) (u : Nat → Int) (pl : Nat → Nat) : Prop where
  up : w.rowIs U t n (fun j => .int .i64 (u j))
  at_ : w.rowIs P t n (fun j => .int .i64 (pl j))

theorem rowI_below {w w' : World} {b : Nat} {t : TypeId} {n : Nat} {f : Nat → Value} (h : w.rowIs b t n f) (hb : Below w.heap.size w w') : w'.rowIs b t n f := h.of_block (hb.block b h.lt)
theorem TreeW.below {w w' : World} {U P n : Nat} {t : TypeId} {u : Nat → Int} {pl : Nat → Nat} (h : TreeW w U P n t u pl) (hb : Below w.heap.size w w') : TreeW w' U P n t u pl := ⟨rowI_below h.up hb, rowI_below h.at_ hb⟩
theorem meetN_succ {up pl : Nat → Nat} (k a b : Nat) : meetN up pl (k + 1) a b = if a = b then a else if pl a < pl b then meetN up pl k (up b) a else meetN up pl k (up a) b := rfl
set_option maxHeartbeats 1000000 in
theorem meet_any {w : World} {U P n : Nat} {u : Nat → Int} {pl : Nat → Nat} {R : Nat → Prop} (hT : TreeW w U P n 3 u pl) (h : DomI R pl (mkN u) (upN u)) (hn : ∀ c, R c → c < n) (a b : Nat) (ha : mkN u a) (hb : mkN u b) :
    Calls Tryd.prog 103 #[.slice (some ⟨U, 0, none⟩) n n, .slice (some ⟨P, 0, none⟩) n n, .int .i64 a, .int .i64 b] w fun e w' => e = .returned (.int .i64 (meetN (upN u) pl (pl a + pl b + 1) a b : Nat)) ∧ Below w.heap.size w w' := by
  have HT := hidI hT
  have HI := hidI h
  have HN := hidI hn
  have HA := hidI ha
  have HB := hidI hb
  clear hT h hn ha hb
  go_enter Tryd.func103, Tryd.ntmps103
  go_wp2
  go_loopw [2, 3] (fun x y wr => ∃ (k c d : Nat), x = .int .i64 c ∧ y = .int .i64 d ∧ mkN u c ∧ mkN u d ∧ pl c + pl d < k ∧ meetN (upN u) pl k c d = meetN (upN u) pl (pl a + pl b + 1) a b ∧ Below w.heap.size w wr) (fun x y _ => pl (intOf x).toNat + pl (intOf y).toNat)
  case atStart => exact ⟨_, a, b, rfl, rfl, HA.out, HB.out, by omega, rfl, Below.refl _ _⟩
  case round =>
    obtain ⟨k, c, d, rfl, rfl, hc, hd, hk, hm, hb⟩ := hrel
    have HT2 := (HT.out.below hb)
    have HB1 := hidI hb
    clear hb
    obtain ⟨k, rfl⟩ : ∃ k', k = k' + 1 := ⟨k - 1, by omega⟩
    have hcn := HN.out _ (HI.out.reach _ hc)
    have hdn := HN.out _ (HI.out.reach _ hd)
    have c1 := HT2.up.cell hcn
    have c2 := HT2.up.cell hdn
    have c3 := HT2.at_.cell hcn
    have c4 := HT2.at_.cell hdn
    clear HT2
    have HC := hidI hc
    have HD := hidI hd
    rw [meetN_succ k c d] at hm
    by_cases e : c = d
    · subst e
      rw [if_pos rfl] at hm
      have HM := hidI hm
      clear hm hc hd
      go_wp2
      go_ret
      exact ⟨by rw [← HM.out]; rfl, by repeat (first | with_reducible exact Below.refl _ _ | with_reducible exact HB3.out | with_reducible refine Below.drew ?_ | with_reducible refine below_drewN ?_ _ | with_reducible refine Below.setCell ?_ ?_ _ | with_reducible refine Below.alloc ?_ ?_ _ | with_reducible exact HB2.out | with_reducible exact HB1.out | with_reducible refine Below.trans ?_ (Below.mono hb3 ?_) | with_reducible refine Below.trans ?_ (Below.mono hb5 ?_) | with_reducible refine Below.trans ?_ (Below.mono hb4 ?_) | omega | (simp; omega) | simp)⟩
    · rw [if_neg e] at hm
      have hne : ¬ ((c : Int) = d) := by omega
      have hpl : pl c ≠ pl d := fun e2 => e (HI.out.one _ _ (HI.out.reach _ hc) (HI.out.reach _ hd) e2)
      by_cases hl : pl c < pl d
      · rw [if_pos hl] at hm
        have hd0 : d ≠ 0 := fun e0 => by
          have := HI.out.rootAt
          rw [e0] at hl; omega
        have h2 := HI.out.less _ hd hd0
        have hu := HI.out.mkUp _ hd
        have e2 : u d = ((upN u d : Nat) : Int) := by
          have : 0 ≤ u d := hd
          unfold upN; omega
        rw [e2] at c2
        have HM := hidI hm
        have HU := hidI hu
        have hl2 : (pl c : Int) < pl d := by omega
        have HP := hidI hpl
        clear hm hc hd hu e2 hpl hd0
        go_wp2
        go_quiet (fail)
        go_wp2
        exact ⟨⟨k, _, _, rfl, rfl, HU.out, HC.out, by omega, HM.out, by repeat (first | with_reducible exact Below.refl _ _ | with_reducible exact HB3.out | with_reducible refine Below.drew ?_ | with_reducible refine below_drewN ?_ _ | with_reducible refine Below.setCell ?_ ?_ _ | with_reducible refine Below.alloc ?_ ?_ _ | with_reducible exact HB2.out | with_reducible exact HB1.out | with_reducible refine Below.trans ?_ (Below.mono hb3 ?_) | with_reducible refine Below.trans ?_ (Below.mono hb5 ?_) | with_reducible refine Below.trans ?_ (Below.mono hb4 ?_) | omega | (simp; omega) | simp)⟩, by simp [intOf]; omega⟩
      · rw [if_neg hl] at hm
        have hc0 : c ≠ 0 := fun e0 => by
          have := HI.out.rootAt
          rw [e0] at hl hpl; omega
        have h2 := HI.out.less _ hc hc0
        have hu := HI.out.mkUp _ hc
        have e2 : u c = ((upN u c : Nat) : Int) := by
          have : 0 ≤ u c := hc
          unfold upN; omega
        rw [e2] at c1
        have HM := hidI hm
        have HU := hidI hu
        have hl2 : ¬ ((pl c : Int) < pl d) := by omega
        have HP := hidI hpl
        clear hm hc hd hu e2 hpl hc0
        go_wp2
        go_quiet (fail)
        go_wp2
        exact ⟨⟨k, _, _, rfl, rfl, HU.out, HD.out, by omega, HM.out, by repeat (first | with_reducible exact Below.refl _ _ | with_reducible exact HB3.out | with_reducible refine Below.drew ?_ | with_reducible refine below_drewN ?_ _ | with_reducible refine Below.setCell ?_ ?_ _ | with_reducible refine Below.alloc ?_ ?_ _ | with_reducible exact HB2.out | with_reducible exact HB1.out | with_reducible refine Below.trans ?_ (Below.mono hb3 ?_) | with_reducible refine Below.trans ?_ (Below.mono hb5 ?_) | with_reducible refine Below.trans ?_ (Below.mono hb4 ?_) | omega | (simp; omega) | simp)⟩, by simp [intOf]; omega⟩

/-- dom.Rules: is a on the way up from b (parents below 0: the end)? -/
def rulesN (u : Nat → Int) (a : Int) : Nat → Int → Bool
  | 0, b => a == b
  | k + 1, b => if 0 ≤ b ∧ b ≠ a then rulesN u a k (u b.toNat) else a == b

/-- how many turns are left -/
def topN (pl : Nat → Nat) (d : Int) : Nat := if 0 ≤ d then pl d.toNat + 1 else 0
theorem topN_nat {pl : Nat → Nat} {c : Nat} : topN pl c = pl c + 1 := by unfold topN; simp
theorem topN_up {pl : Nat → Nat} {u : Nat → Int} {c : Nat} (h : 0 ≤ u c → pl (u c).toNat < pl c) : topN pl (u c) < topN pl (c : Int) := by
  rw [topN_nat]
  unfold topN
  split
  · have := h (by assumption); omega
  · omega
theorem rulesN_succ {u : Nat → Int} {a : Int} (k : Nat) (b : Int) : rulesN u a (k + 1) b = if 0 ≤ b ∧ b ≠ a then rulesN u a k (u b.toNat) else a == b := rfl
set_option maxHeartbeats 1000000 in
theorem rules_any {w : World} {U n : Nat} {u : Nat → Int} {pl : Nat → Nat} (hU : w.rowIs U 3 n (fun j => .int .i64 (u j))) (hI : ∀ c, c < n → -1 ≤ u c ∧ u c < n ∧ (0 ≤ u c → pl (u c).toNat < pl c)) (a b : Nat) (_ha : a < n) (hb : b < n) :
    Calls Tryd.prog 134 #[.slice (some ⟨U, 0, none⟩) n n, .int .i64 a, .int .i64 b] w fun e w' => e = .returned (.bool (rulesN u a (pl b + 2) b)) ∧ Below w.heap.size w w' := by
  have HU := hidI hU
  have HI := hidI hI
  clear hU hI
  go_enter Tryd.func134, Tryd.ntmps134
  go_wp2
  go_loopw [2] (fun y wr => ∃ (k : Nat) (d : Int), y = .int .i64 d ∧ -1 ≤ d ∧ d < n ∧ topN pl d < k ∧ rulesN u a k d = rulesN u a (pl b + 2) b ∧ Below w.heap.size w wr) (fun y _ => topN pl (intOf y))
  case atStart => exact ⟨pl b + 2, b, rfl, by omega, by omega, by rw [topN_nat]; omega, rfl, Below.refl _ _⟩
  case round =>
    obtain ⟨k, d, rfl, h1, h2, hk, hm, hb⟩ := hrel
    have HB1 := hidI hb
    clear hb
    obtain ⟨k, rfl⟩ : ∃ k', k = k' + 1 := ⟨k - 1, by omega⟩
    rw [rulesN_succ k d] at hm
    by_cases h0 : 0 ≤ d
    · obtain ⟨c, rfl⟩ : ∃ c : Nat, d = c := ⟨d.toNat, by omega⟩
      have hcn : c < n := by omega
      have c1 := (rowI_below HU.out HB1.out).cell hcn
      by_cases e : c = a
      · subst e
        rw [if_neg (by simp)] at hm
        have HM := hidI hm
        clear hm hk
        go_wp2
        go_ret
        exact ⟨by rw [← HM.out]; simp, by repeat (first | with_reducible exact Below.refl _ _ | with_reducible exact HB3.out | with_reducible refine Below.drew ?_ | with_reducible refine below_drewN ?_ _ | with_reducible refine Below.setCell ?_ ?_ _ | with_reducible refine Below.alloc ?_ ?_ _ | with_reducible exact HB2.out | with_reducible exact HB1.out | with_reducible refine Below.trans ?_ (Below.mono hb3 ?_) | with_reducible refine Below.trans ?_ (Below.mono hb5 ?_) | with_reducible refine Below.trans ?_ (Below.mono hb4 ?_) | omega | (simp; omega) | simp)⟩
      · have hne : ¬ ((c : Int) = a) := by omega
        rw [if_pos ⟨h0, hne⟩] at hm
        have HM := hidI hm
        have h3 := HI.out c hcn
        have HX := hidI h3
        have HK := hidI hk
        clear hm h3 hk
        go_wp2
        obtain ⟨h4, h5, h6⟩ := HX.out
        have h7 := topN_up h6
        exact ⟨⟨k, _, rfl, h4, h5, by have := HK.out; omega, HM.out, by repeat (first | with_reducible exact Below.refl _ _ | with_reducible exact HB3.out | with_reducible refine Below.drew ?_ | with_reducible refine below_drewN ?_ _ | with_reducible refine Below.setCell ?_ ?_ _ | with_reducible refine Below.alloc ?_ ?_ _ | with_reducible exact HB2.out | with_reducible exact HB1.out | with_reducible refine Below.trans ?_ (Below.mono hb3 ?_) | with_reducible refine Below.trans ?_ (Below.mono hb5 ?_) | with_reducible refine Below.trans ?_ (Below.mono hb4 ?_) | omega | (simp; omega) | simp)⟩, h7⟩
    · rw [if_neg (by omega)] at hm
      have hne : ¬ ((a : Int) = d) := by omega
      have HM := hidI hm
      clear hm hk
      go_wp2
      go_ret
      exact ⟨by rw [← HM.out]; simp, by repeat (first | with_reducible exact Below.refl _ _ | with_reducible exact HB3.out | with_reducible refine Below.drew ?_ | with_reducible refine below_drewN ?_ _ | with_reducible refine Below.setCell ?_ ?_ _ | with_reducible refine Below.alloc ?_ ?_ _ | with_reducible exact HB2.out | with_reducible exact HB1.out | with_reducible refine Below.trans ?_ (Below.mono hb3 ?_) | with_reducible refine Below.trans ?_ (Below.mono hb5 ?_) | with_reducible refine Below.trans ?_ (Below.mono hb4 ?_) | omega | (simp; omega) | simp)⟩
end Go.Proofs.YtdjamkinijhjoaaDoor
