/-
  Plain: what the check tells of a unit.
-/
import Derived.Test.YteckkdmgkikeaaaDoorChkJ
import Derived.Test.YteckkdmgkikeaaaDoorChkM
import Derived.Test.YteckkdmgkikeaaaDoorChkB
namespace Go.Proofs.YteckkdmgkikeaaaDoor
open Go.RowKit

theorem firstE_zero : ∀ {l : List Int}, (∀ x ∈ l, x = 0) → firstE l = 0
  | [], _ => rfl
  | x :: l, h => by
    unfold firstE
    rw [if_pos (h x List.mem_cons_self)]
    exact firstE_zero (fun y hy => h y (List.mem_cons_of_mem _ hy))
theorem firstE_hit : ∀ {l : List Int} {k : Nat} (hk : k < l.length), (∀ j (hj : j < k), l[j]'(by omega) = 0) → l[k] ≠ 0 → firstE l = l[k]
  | x :: l, 0, _, _, h => by
    unfold firstE
    rw [if_neg (by simpa using h)]; rfl
  | x :: l, k + 1, hk, h0, h => by
    have hx : x = 0 := h0 0 (by omega)
    unfold firstE
    rw [if_pos hx]
    have := firstE_hit (l := l) (k := k) (by simpa using hk) (fun j hj => by have := h0 (j + 1) (by omega); simpa using this) (by simpa using h)
    simpa using this
theorem firstE_all {l : List Int} (h : firstE l = 0) : ∀ x ∈ l, x = 0 := by
  induction l with
  | nil => intro x hx; cases hx
  | cons y l ih =>
    unfold firstE at h
    by_cases hy : y = 0
    · rw [if_pos hy] at h
      intro x hx
      rcases List.mem_cons.1 hx with rfl | hx
      · exact hy
      · exact ih h x hx
    · rw [if_neg hy] at h; exact absurd h hy

/-- the first of n numbers that is not 0, and its place -/
def firstAt (n : Nat) (g : Nat → Int) : Option (Int × Int) := ((List.range n).find? fun i => g i != 0).map fun i => (g i, (i : Int))
theorem firstAt_none {n : Nat} {g : Nat → Int} (h : ∀ j, j < n → g j = 0) : firstAt n g = none := by
  unfold firstAt
  rw [List.find?_eq_none.2]
  · rfl
  · intro i hi
    simp [h i (List.mem_range.1 hi)]
theorem firstAt_all {n : Nat} {g : Nat → Int} (h : firstAt n g = none) : ∀ j, j < n → g j = 0 := by
  intro j hj
  unfold firstAt at h
  rw [Option.map_eq_none_iff, List.find?_eq_none] at h
  have := h j (List.mem_range.2 hj)
  simpa using this
theorem find_range : ∀ (n k : Nat) (p : Nat → Bool), k < n → (∀ j, j < k → p j = false) → p k = true → (List.range n).find? p = some k := by
  intro n k p hk h0 h1
  rw [List.find?_eq_some_iff_append]
  refine ⟨h1, List.range k, (List.range (n - k - 1)).map (· + (k + 1)), ?_, fun a ha => by simp [h0 a (List.mem_range.1 ha)]⟩
  apply List.ext_getElem
  · simp; omega
  · intro i h2 h3
    rw [List.getElem_range]
    rcases Nat.lt_trichotomy i k with g | g | g
    · rw [List.getElem_append_left (by simpa using g)]; simp
    · subst g; rw [List.getElem_append_right (by simp)]; simp
    · rw [List.getElem_append_right (by simp; omega)]
      rw [List.getElem_cons]
      rw [dif_neg (by simp; omega)]
      simp; omega
theorem firstAt_hit {n k : Nat} {g : Nat → Int} (hk : k < n) (h0 : ∀ j, j < k → g j = 0) (h : g k ≠ 0) : firstAt n g = some (g k, (k : Int)) := by
  unfold firstAt
  rw [find_range n k _ hk (fun j hj => by simp [h0 j hj]) (by simpa using h)]
  rfl

/-- the parameters of function k of a unit -/
def parU (u : UniL) (k : Nat) : Int := (u.funcs.map (·.params)).getD k 0
def endL (f : FunL) (x : EndL) : Int := endE f.regs f.blocks.length x.kind x.onr x.onn x.to
def insL (u : UniL) (f : FunL) (x : InsL) : Int := insE f.regs u.funcs.length (parU u) x.op x.dst x.an x.bn x.fn x.ar x.br x.args
def phiL (f : FunL) (block cnt : Nat) (x : PhiL) : Int := phiE f.regs block cnt x.dst x.src
/-- where the ends of a function's blocks lead -/
def tosL (f : FunL) : List (List Int) := f.blocks.map fun b => b.fin.to
/-- all ways between a function's blocks: (to, from) -/
def waysL (f : FunL) : List (Nat × Nat) := waysOf (tosL f) f.blocks.length
def blkE (u : UniL) (f : FunL) (i : Nat) (b : BlkL) : Int :=
  if firstE (b.phis.map (phiL f i (rowOf (waysL f) i).length)) = 0 then firstE (b.list.map (insL u f)) else firstE (b.phis.map (phiL f i (rowOf (waysL f) i).length))
/-- block i of a function, counted -/
def blkI (u : UniL) (f : FunL) (i : Nat) : Int := match f.blocks[i]? with | some b => blkE u f i b | none => 0
def bodyE (u : UniL) (f : FunL) : Int :=
  if firstE (f.blocks.map fun b => endL f b.fin) = 0 then firstE ((List.range f.blocks.length).map (blkI u f)) else firstE (f.blocks.map fun b => endL f b.fin)

/-- phis and instructions of a function -/
def manyL (f : FunL) : Nat := (f.blocks.map fun b => b.phis.length + b.list.length).sum
def headE (names : List ByteArray) (f : FunL) : Int :=
  if nameB f.name = false then 12
  else if hasB names f.name = true then 7
  else if ¬(0 ≤ f.params ∧ f.params ≤ 6) ∨ ¬(f.params ≤ f.regs ∧ f.regs ≤ 100) then 3
  else if ¬(1 ≤ f.blocks.length ∧ f.blocks.length ≤ 40) ∨ 300 < manyL f then 2
  else 0
/-- the words of the first k globals -/
def wordsTo (u : UniL) (k : Nat) : Int := ((u.globals.take k).map (·.size)).sum
def gloE (names : List ByteArray) (words : Int) (g : GloL) : Int :=
  if nameB g.name = false then 12
  else if hasB names g.name = true then 7
  else if ¬(1 ≤ g.size ∧ g.size ≤ 200) then 3
  else if g.size < g.init.length then 9
  else if 200 < words + g.size then 10
  else 0
def namesG (u : UniL) (k : Nat) : List ByteArray := (u.globals.take k).map (·.name)
def namesF (u : UniL) (k : Nat) : List ByteArray := u.globals.map (·.name) ++ (u.funcs.take k).map (·.name)
def gloI (u : UniL) (i : Nat) : Int := match u.globals[i]? with | some g => gloE (namesG u i) (wordsTo u i) g | none => 0
def headI (u : UniL) (i : Nat) : Int := match u.funcs[i]? with | some f => headE (namesF u i) f | none => 0
def bodyI (u : UniL) (i : Nat) : Int := match u.funcs[i]? with | some f => bodyE u f | none => 0
def mainB (f : FunL) : Bool := f.name.toList == [109, 97, 105, 110]
/-- the place of main -/
def mainAt (u : UniL) : Option Nat := (List.range u.funcs.length).find? fun i => match u.funcs[i]? with | some f => mainB f | none => false
def chkO (u : UniL) : Option (Int × Int) :=
  if 10 < u.globals.length ∨ 10 < u.funcs.length then some (2, 0)
  else match firstAt u.globals.length (gloI u) with
  | some r => some r
  | none => match firstAt u.funcs.length (headI u) with
  | some r => some r
  | none => match firstAt u.funcs.length (bodyI u) with
  | some r => some r
  | none => match mainAt u with
  | none => some (6, 0)
  | some m => if 0 < parU u m then some (5, (m : Int)) else none
def chk (u : UniL) : Int × Int := (chkO u).getD (0, 0)
end Go.Proofs.YteckkdmgkikeaaaDoor
