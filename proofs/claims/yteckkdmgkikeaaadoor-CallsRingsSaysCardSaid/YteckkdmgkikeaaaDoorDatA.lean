/-
  How arguments read as data: slices of whatever elements, values, instructions; what a law's row asks behind a call that changes nothing.
-/
import Derived.Test.YteckkdmgkikeaaaDoorRows
import Derived.Test.YteckkdmgkikeaaaDoorWrd
import Derived.ProofKit
import Derived.Deep.Slices
namespace Go.Proofs.YteckkdmgkikeaaaDoor
open Go.RowKit Go.ChangeShapes Go.WideShapes Go.ChangeAt

/-- the elements of a slice lie in memory: element i's cells meet R of the i-th -/
def SliceAt {α : Type} (w : World) (size : Nat) (R : List Value → α → Prop) (p : Option Addr) (xs : List α) : Prop :=
  xs = [] ∨ ∃ b o, p = some ⟨b, o, none⟩ ∧ ∀ i (hi : i < xs.length), ∃ cs, cs.length = size ∧ (∀ j, j < size → w.cell? ⟨b, o + i * size + j, none⟩ = cs[j]?) ∧ R cs xs[i]

theorem cells_get {w : World} {base : Nat} {a : Addr} {n : Nat} {cs : List Value} (h : w.cells? base a n = some cs) : cs.length = n ∧ ∀ j, j < n → w.cell? (a.add j) = cs[j]? := by
  unfold World.cells? at h
  split at h
  · have hl := mapM_some_length h
    refine ⟨by simpa using hl, fun j hj => ?_⟩
    have := mapM_some_get h j j (by simp [hj])
    exact this
  · cases h

theorem list_of_forall {α : Type} {Q : Nat → α → Prop} : ∀ (n : Nat), (∀ i, i < n → ∃ x, Q i x) → ∃ xs : List α, xs.length = n ∧ ∀ i (hi : i < xs.length), Q i xs[i]
  | 0, _ => ⟨[], rfl, fun i hi => absurd hi (by simp)⟩
  | n + 1, h => by
    obtain ⟨xs, hl, hx⟩ := list_of_forall n (fun i hi => h i (by omega))
    obtain ⟨x, hq⟩ := h n (by omega)
    refine ⟨xs ++ [x], by simp [hl], fun i hi => ?_⟩
    rw [List.length_append, List.length_singleton] at hi
    rcases Nat.lt_or_ge i xs.length with g | g
    · rw [List.getElem_append_left g]; exact hx i g
    · obtain rfl : i = xs.length := by omega
      rw [List.getElem_append_right (Nat.le_refl _)]
      simp only [Nat.sub_self, List.getElem_cons_zero]
      rw [hl]; exact hq

theorem mem_weightsAll {H : Type} {P : Program} {e : TypeId} {d : DataW H} {k : Nat} (hk : k ∈ d.weights P e) : ∀ {l : List (DataW H)}, d ∈ l → k ∈ DataW.weightsAll P e l
  | x :: r, h => by
    unfold DataW.weightsAll
    rcases List.mem_cons.1 h with rfl | h
    · exact List.mem_append_left _ hk
    · exact List.mem_append_right _ (mem_weightsAll hk h)

section
variable {H : Type} {enc : TypeId × Value → H} {P : Program} {w : World}

/-- a slice that came in, whatever its elements -/
theorem rd_slice {α : Type} {R : List Value → α → Prop} {t e : TypeId} {size bytes : Nat} (ht : P.underlying t = some (.slice e)) (hsz : P.cellsOf e = size) (hby : P.bytesOf e = bytes) (hpos : 0 < size)
    (hR : ∀ fuel cs d ps, DataW.trod enc P w 0 (fun _ => true) true fuel e cs = some (d, ps) → (∀ k ∈ d.weights P e, k ≤ reachBytes) → ∃ x, R cs x)
    {fuel : Nat} {cs : List Value} {d : DataW H} {ps : List MemPlace} (h : DataW.trod enc P w 0 (fun _ => true) true fuel t cs = some (d, ps)) (hw : ∀ k ∈ d.weights P t, k ≤ reachBytes) :
    ∃ (p : Option Addr) (c : Nat) (xs : List α), cs = [.slice p xs.length c] ∧ (p = none → xs.length = 0 ∧ c = 0) ∧ xs.length ≤ c ∧ c * bytes ≤ reachBytes ∧ SliceAt w size R p xs := by
  rcases Go.Deep.open_slice ht h with ⟨rfl, hx⟩ | ⟨a, len, cap, m, n, D, Pl, rfl, _, hl, hm, hmm, hx, hel⟩
  · exact ⟨none, 0, [], rfl, fun _ => ⟨rfl, rfl⟩, Nat.le_refl _, by simp, .inl rfl⟩
  · simp only [if_true] at hmm
    subst hmm
    simp only [Prod.mk.injEq] at hx
    obtain ⟨rfl, rfl⟩ := hx
    have hwl : m * bytes ≤ reachBytes := by
      refine hw _ ?_
      unfold DataW.weights
      rw [ht]
      simp only [List.length_map, List.length_range, hby]
      rw [show len + (m - len) = m by omega]
      exact List.mem_cons_self
    have hel2 : ∀ i, i < len → ∃ x, ∃ cs', w.cells? 0 (a.add (i * size)) size = some cs' ∧ R cs' x := by
      intro i hi
      obtain ⟨cs', hc, htr⟩ := hel i (by omega)
      rw [hsz] at hc
      obtain ⟨x, hx⟩ := hR _ _ _ _ htr (fun k hk => by
        refine hw _ ?_
        unfold DataW.weights
        rw [ht]
        refine List.mem_cons_of_mem _ (List.mem_append_left _ ?_)
        exact mem_weightsAll hk (List.mem_map.2 ⟨i, List.mem_range.2 hi, rfl⟩))
      exact ⟨x, cs', hc, hx⟩
    obtain ⟨xs, rfl, hxs⟩ := list_of_forall len hel2
    refine ⟨some a, m, xs, rfl, fun h => (by cases h), hl, hwl, ?_⟩
    rcases Nat.eq_zero_or_pos xs.length with h0 | h0
    · exact .inl (List.length_eq_zero_iff.1 h0)
    right
    obtain ⟨b, o, sp⟩ := a
    have hsp : sp = none := by
      obtain ⟨cs', hc, _⟩ := hxs 0 h0
      obtain ⟨hcl, hcc⟩ := cells_get hc
      have h1 := hcc 0 hpos
      rw [List.getElem?_eq_getElem (by omega)] at h1
      cases sp with
      | none => rfl
      | some s =>
        exfalso
        unfold World.cell? at h1
        split at h1
        · simp [Addr.add] at h1
        · cases h1
    subst hsp
    refine ⟨b, o, rfl, fun i hi => ?_⟩
    obtain ⟨cs', hc, hr⟩ := hxs i hi
    obtain ⟨hcl, hcc⟩ := cells_get hc
    refine ⟨cs', hcl, fun j hj => ?_, hr⟩
    have := hcc j hj
    rw [← this]
    congr 1
    simp only [Addr.add]
    split <;> split <;> simp_all <;> omega

/-- behind a call that made new memory alone, each argument reads as it did -/
theorem trodAll_below {W W' : World} (hl : laidOutB P = true) (hb : Below W.heap.size W W') : ∀ {ts : List TypeId} {vs : List Value} {ds : List (DataW H)} {ps : List MemPlace}, (∀ t ∈ ts, P.readableRec t = true ∧ t < P.types.size) →
    DataW.TrodAll enc P W 0 (fun _ => true) true ts vs ds ps → (∀ x ∈ ps, x.block < W.heap.size) → DataW.TrodAll enc P W' 0 (fun b => decide (b < W.heap.size)) true ts vs ds ps
  | [], [], [], _, _, h, _ => h
  | t :: ts, v :: vs, d :: ds, ps, ht, h, hlt => by
    obtain ⟨p, q, h1, h2, rfl⟩ := h
    obtain ⟨r1, r2⟩ := ht t List.mem_cons_self
    exact ⟨p, q, Below.trod hl r1 r2 h1 hb (fun x hx => hlt x (List.mem_append_left _ hx)), trodAll_below hl hb (fun t h => ht t (List.mem_cons_of_mem _ h)) h2 (fun x hx => hlt x (List.mem_append_right _ hx)), rfl⟩

/-- what a law's row asks of a call that answers true and has made new memory alone -/
theorem law_post {f : Func} {s : ChangeSpec} {W W' : World} {args : Array Value} {ds gs : List (DataW H)} {before : List MemPlace} {T : TypeId} (hl : laidOutB P = true) (hres : f.resultTypes = #[T]) (hT : P.underlying T = some .bool)
    (hts : ∀ t ∈ f.params.toList, P.readableRec t = true ∧ t < P.types.size) (hvars : s.vars = []) (hW : DataW.Whole enc P f.params.toList s.vars false W args.toList ds gs before)
    (hfn : s.fn H (ds ++ gs) = { results := [.lit (.bool true)], args := ds }) (hb : Below W.heap.size W W') :
    s.post enc P f false true false false W args (.bool true) W' := by
  have hlt : ∀ x ∈ before, x.block < W.heap.size := fun x hx => hW.lt x hx
  have hW2 := hW
  obtain ⟨p, q, hA, hV, rfl, hfz, hnd⟩ := hW2
  refine ⟨ds, gs, _, [], p, [], hW, ?_, ?_, ?_, hb.frame _, fun h => by cases h⟩
  · rw [hfn, hres]
    exact trodAll_mk1 (shut_bool hT true)
  · rw [hfn]
    exact trodAll_below hl hb hts hA (fun x hx => hlt x (List.mem_append_left _ hx))
  · rw [hfn, hvars]
    exact rfl
end
end Go.Proofs.YteckkdmgkikeaaaDoor
