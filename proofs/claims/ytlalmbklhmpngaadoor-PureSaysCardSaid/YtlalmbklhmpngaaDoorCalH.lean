/-
  Plain: a table of rows of numbers in a world; the marks of loops over iterators at a function's end.
-/
import Derived.Test.YtlalmbklhmpngaaDoorBCalA
import Derived.Test.YtlalmbklhmpngaaDoorCalG
import Derived.Deep.OwnRows
namespace Go.Proofs.YtlalmbklhmpngaaDoor
open Go.RowKit Go.Shelf

/-- block T is a table of n rows of numbers, each in its own memory from block B on -/
structure RowsT (w : World) (B T n : Nat) (ts ti : TypeId) (f : Nat → Value) (rows : Nat → List Int) : Prop where
  tab : w.rowIs T ts n f
  row : ∀ j, j < n → w.ownsRow B ti 1 (f j) (rows j).length ((rows j).map (.int .i64))
  two : ∀ j k, j < n → k < n → j ≠ k → (f j).ownBlock = none ∨ (f j).ownBlock ≠ (f k).ownBlock
  low : T < B

theorem RowsT.made (w : World) (n B : Nat) (ts ti : TypeId) (hB : w.heap.size < B) : RowsT (w.alloc (.cells (madeCells #[.slice none 0 0] n) ts)) B w.heap.size n ts ti (fun _ => .slice none 0 0) (fun _ => []) :=
  ⟨World.rowIs_made w _ n ts, fun _ _ => World.ownsRow_nil _ _ _ _, fun _ _ _ _ _ => .inl rfl, hB⟩
theorem RowsT.below {w w' : World} {B T n : Nat} {ts ti : TypeId} {f : Nat → Value} {rows : Nat → List Int} (h : RowsT w B T n ts ti f rows) (hb : Below w.heap.size w w') : RowsT w' B T n ts ti f rows :=
  ⟨h.tab.of_block (hb.block T h.tab.lt), fun j hj => ownsRow_below' (h.row j hj) hb, h.two, h.low⟩
theorem RowsT.congr {w : World} {B T n : Nat} {ts ti : TypeId} {f : Nat → Value} {rows rows' : Nat → List Int} (h : RowsT w B T n ts ti f rows) (e : ∀ j, j < n → rows j = rows' j) : RowsT w B T n ts ti f rows' :=
  ⟨h.tab, fun j hj => by rw [← e j hj]; exact h.row j hj, h.two, h.low⟩
theorem RowsT.grown {w w' : World} {B T n : Nat} {ts ti : TypeId} {f : Nat → Value} {rows : Nat → List Int} {r : Option Nat} (h : RowsT w B T n ts ti f rows) (hg : w.grownBy w' r) (hr : r = none ∨ (r ≠ some T ∧ ∀ j, j < n → (f j).ownBlock = none ∨ (f j).ownBlock ≠ r)) : RowsT w' B T n ts ti f rows := by
  rcases hr with rfl | ⟨h1, h2⟩
  · exact ⟨h.tab.of_block (hg.block T h.tab.lt (by simp)), fun j hj => (h.row j hj).kept hg (by cases (f j).ownBlock with | none => exact .inl rfl | some k => exact .inr (by simp)), h.two, h.low⟩
  · exact ⟨h.tab.of_block (hg.block T h.tab.lt (fun e => h1 e.symm)), fun j hj => (h.row j hj).kept hg (h2 j hj), h.two, h.low⟩

/-- row t is another one: its slice v' lies in the same block or in a new one; the table holds v' -/
theorem RowsT.turn {w w' : World} {B T n : Nat} {ts ti : TypeId} {f : Nat → Value} {rows : Nat → List Int} {t : Nat} {v' : Value} {xs : List Int} (h : RowsT w B T n ts ti f rows) (ht : t < n)
    (htab : w'.rowIs T ts n (fun j => if j = t then v' else f j)) (hown : w'.ownsRow B ti 1 v' xs.length (xs.map (.int .i64)))
    (hblk : ∀ k, k < w.heap.size → k ≠ T → some k ≠ (f t).ownBlock → w'.heap[k]? = w.heap[k]?) (_hs : w.heap.size ≤ w'.heap.size)
    (hv : v'.ownBlock = (f t).ownBlock ∨ ∃ k, v'.ownBlock = some k ∧ w.heap.size ≤ k) :
    RowsT w' B T n ts ti (fun j => if j = t then v' else f j) (fun j => if j = t then xs else rows j) := by
  have hlow : ∀ j, j < n → ∀ k, (f j).ownBlock = some k → B ≤ k ∧ k < w.heap.size := fun j hj k hk => (h.row j hj).lt k hk
  have keep : ∀ j, j < n → j ≠ t → w'.ownsRow B ti 1 (f j) (rows j).length ((rows j).map (.int .i64)) := fun j hj hjt => by
    have ho := h.row j hj
    refine ⟨ho.1, ?_⟩
    rcases ho.2 with hn | ⟨g, cap, cur, hfg, hb, hgg, rest⟩
    · exact .inl hn
    · have hob : (f j).ownBlock = some g := by rw [hfg]; rfl
      refine .inr ⟨g, cap, cur, hfg, hb, ?_, rest⟩
      rw [hblk g (Array.getElem?_eq_some_iff.1 hgg).1 (by have := h.low; omega) (fun e => ?_)]
      · exact hgg
      · rcases h.two j t hj ht hjt with g1 | g1
        · rw [hob] at g1; cases g1
        · exact g1 (by rw [hob, e])
  refine ⟨htab, fun j hj => ?_, fun j k hj hk hjk => ?_, h.low⟩
  · by_cases hjt : j = t
    · simp only [if_pos hjt]; exact hown
    · simp only [if_neg hjt]; exact keep j hj hjt
  · show (if j = t then v' else f j).ownBlock = none ∨ (if j = t then v' else f j).ownBlock ≠ (if k = t then v' else f k).ownBlock
    by_cases hjt : j = t
    · have hkt : k ≠ t := fun e => hjk (hjt.trans e.symm)
      rw [if_pos hjt, if_neg hkt]
      rcases hv with e | ⟨q, e, hq⟩
      · rw [e]; exact h.two t k ht hk (fun e => hkt e.symm)
      · refine .inr (fun g => ?_)
        have := (hlow k hk _ (g.symm.trans e)).2
        omega
    · rw [if_neg hjt]
      by_cases hkt : k = t
      · rw [if_pos hkt]
        rcases hv with e | ⟨q, e, hq⟩
        · rw [e]; exact h.two j t hj ht hjt
        · cases hb : (f j).ownBlock with
          | none => exact .inl rfl
          | some p => exact .inr (fun g => by have := (hlow j hj p hb).2; rw [e] at g; injection g with g; omega)
      · rw [if_neg hkt]; exact h.two j k hj hk hjk
theorem RowsT.cell {w : World} {B T n : Nat} {ts ti : TypeId} {f : Nat → Value} {rows : Nat → List Int} (h : RowsT w B T n ts ti f rows) {t : Nat} (ht : t < n) : ∃ q c, f t = .slice q (rows t).length c := by
  obtain ⟨p, c, hp⟩ := own_slice (h.row t ht)
  exact ⟨p, c, hp⟩
/-- the table reads as a list of rows -/
theorem RowsT.reads {w : World} {B T n : Nat} {ts ti : TypeId} {f : Nat → Value} {rows : Nat → List Int} (h : RowsT w B T n ts ti f rows) (hI : ∀ j, j < n → (rows j).length ≤ 140737488355328 ∧ ∀ x ∈ rows j, I64 x) : SliceAt w 1 (IntsR w) (some ⟨T, 0, none⟩) ((List.range n).map rows) := by
  refine .inr ⟨T, 0, rfl, fun i hi => ?_⟩
  have hi2 : i < n := by simpa using hi
  obtain ⟨hl, hx⟩ := hI i hi2
  obtain ⟨q, d, hq, hs⟩ := own_ints rfl (h.row i hi2) hx
  refine ⟨[.slice q (rows i).length d], rfl, fun j hj => ?_, ?_⟩
  · obtain rfl : j = 0 := by omega
    simp only [Nat.zero_add, Nat.mul_one, Nat.add_zero, List.getElem?_cons_zero]
    rw [h.tab.cell hi2, hq]
  · have e : ((List.range n).map rows)[i] = rows i := by simp
    rw [e]
    exact ⟨q, d, rfl, hl, hs⟩

/-- the marks that loops over iterators leave on a function under way -/
def marks (Ds : List Nat) : List Deferred := Ds.map fun D => { target := .collected D, args := #[] }
theorem leaves_marks {F : Fence} {n : Nat} {P : Program} {fn : Func} {tmps : Array Value} {R : Ending → World → Prop} (B : Nat) : ∀ (Ds : List Nat) (w : World), Ds.Nodup → (∀ D ∈ Ds, B ≤ D ∧ w.heap[D]? = some (.deferred (some []))) →
    (∀ w', w'.os = w.os → w'.tape = w.tape → w'.output = w.output → w.heap.size ≤ w'.heap.size → (∀ k, k ∉ Ds → w'.heap[k]? = w.heap[k]?) → ∃ v, (results fn tmps).run P w' = .ok v w' ∧ R (.returned v) w') → LeavesInM F n P fn tmps R (marks Ds) .returning w
  | [], w, _, _, h => h w rfl rfl rfl (Nat.le_refl _) (fun _ _ => rfl)
  | D :: Ds, w, hn, hD, h => by
    obtain ⟨hn1, hn2⟩ := List.nodup_cons.1 hn
    refine ⟨by simp, .inl ⟨D, _, rfl, run_takeDeferred (hD D List.mem_cons_self).2, ?_⟩⟩
    refine leaves_marks B Ds _ hn2 (fun E hE => ?_) (fun w' h1 h2 h3 h4 h5 => ?_)
    · obtain ⟨a, b⟩ := hD E (List.mem_cons_of_mem _ hE)
      exact ⟨a, (World.putObj_heap_other (fun e => hn1 (by rw [← e]; exact hE))).trans b⟩
    · refine h w' h1 h2 h3 (by simpa using h4) (fun k hk => ?_)
      rw [h5 k (fun hh => hk (List.mem_cons_of_mem _ hh))]
      exact World.putObj_heap_other (fun e => hk (by rw [e]; exact List.mem_cons_self))
end Go.Proofs.YtlalmbklhmpngaaDoor
