/-
  Plain: what the check tells of a unit.
The contract of the checker's body.
The contract of slices.IndexFunc with the question whether a function is main.
-/
import Derived.Test.YtdjamkinijhjoaaDoorBChkI
import Derived.Test.YtdjamkinijhjoaaDoorBDat
import Derived.Test.YtdjamkinijhjoaaDoorBChkA
import Derived.WalkKit
import Derived.WalkSpells
import Derived.WalkLawsBesides
namespace Go.Proofs.YtdjamkinijhjoaaDoor
open Go.RowKit

theorem firstE_zero : ∀ {l : List Int}, (∀ x ∈ l, x = 0) → firstE l = 0
  | [], _ => rfl
  | x :: l, h => by
    unfold firstE
    rw [if_pos (h x List.mem_cons_self)]
    exact firstE_zero (fun y hy => h y (List.mem_cons_of_mem _ hy))
theorem firstE_hit : ∀ {l : List Int} {k : Nat} (hk : k < l.length), (∀ j (hj : j < k), l[j]'(by omega) = 0) → l[k] ≠ 0 → firstE l = l[k]
  | x :: l, 0, _, _, h => by
    unfold firstE
    rw [if_neg (by simpa using h)]; rfl
  | x :: l, k + 1, hk, h0, h => by
    have hx : x = 0 := h0 0 (by omega)
    unfold firstE
    rw [if_pos hx]
    have := firstE_hit (l := l) (k := k) (by simpa using hk) (fun j hj => by have := h0 (j + 1) (by omega); simpa using this) (by simpa using h)
    simpa using this
theorem firstE_all {l : List Int} (h : firstE l = 0) : ∀ x ∈ l, x = 0 := by
  induction l with
  | nil => intro x hx; cases hx
  | cons y l ih =>
    unfold firstE at h
    by_cases hy : y = 0
    · rw [if_pos hy] at h
      intro x hx
      rcases List.mem_cons.1 hx with rfl | hx
      · exact hy
      · exact ih h x hx
    · rw [if_neg hy] at h; exact absurd h hy

/-- the first of n numbers that is not 0, and its place -/
def firstAt (n : Nat) (g : Nat → Int) : Option (Int × Int) := ((List.range n).find? fun i => g i != 0).map fun i => (g i, (i : Int))
theorem firstAt_none {n : Nat} {g : Nat → Int} (h : ∀ j, j < n → g j = 0) : firstAt n g = none := by
  unfold firstAt
  rw [List.find?_eq_none.2]
  · rfl
  · intro i hi
    simp [h i (List.mem_range.1 hi)]
theorem firstAt_all {n : Nat} {g : Nat → Int} (h : firstAt n g = none) : ∀ j, j < n → g j = 0 := by
  intro j hj
  unfold firstAt at h
  rw [Option.map_eq_none_iff, List.find?_eq_none] at h
  have := h j (List.mem_range.2 hj)
  simpa using this
theorem find_range : ∀ (n k : Nat) (p : Nat → Bool), k < n → (∀ j, j < k → p j = false) → p k = true → (List.range n).find? p = some k := by
  intro n k p hk h0 h1
  rw [List.find?_eq_some_iff_append]
  refine ⟨h1, List.range k, (List.range (n - k - 1)).map (· + (k + 1)), ?_, fun a ha => by simp [h0 a (List.mem_range.1 ha)]⟩
  apply List.ext_getElem
  · simp; omega
  · intro i h2 h3
    rw [List.getElem_range]
    rcases Nat.lt_trichotomy i k with g | g | g
    · rw [List.getElem_append_left (by simpa using g)]; simp
    · subst g; rw [List.getElem_append_right (by simp)]; simp
    · rw [List.getElem_append_right (by simp; omega)]
      rw [List.getElem_cons]
      rw [dif_neg (by simp; omega)]
      simp; omega
theorem firstAt_hit {n k : Nat} {g : Nat → Int} (hk : k < n) (h0 : ∀ j, j < k → g j = 0) (h : g k ≠ 0) : firstAt n g = some (g k, (k : Int)) := by
  unfold firstAt
  rw [find_range n k _ hk (fun j hj => by simp [h0 j hj]) (by simpa using h)]
  rfl

/-- the parameters of function k of a unit -/
def parU (u : UniL) (k : Nat) : Int := (u.funcs.map (·.params)).getD k 0
def endL (f : FunL) (x : EndL) : Int := endE f.regs f.blocks.length x.kind x.onr x.onn x.to
def insL (u : UniL) (f : FunL) (x : InsL) : Int := insE f.regs u.funcs.length (parU u) x.op x.dst x.an x.bn x.fn x.ar x.br x.args
def phiL (f : FunL) (block cnt : Nat) (x : PhiL) : Int := phiE f.regs block cnt x.dst x.src
/-- where the ends of a function's blocks lead -/
def tosL (f : FunL) : List (List Int) := f.blocks.map fun b => b.fin.to
/-- all ways between a function's blocks: (to, from) -/
def waysL (f : FunL) : List (Nat × Nat) := waysOf (tosL f) f.blocks.length
def blkE (u : UniL) (f : FunL) (i : Nat) (b : BlkL) : Int :=
  if firstE (b.phis.map (phiL f i (rowOf (waysL f) i).length)) = 0 then firstE (b.list.map (insL u f)) else firstE (b.phis.map (phiL f i (rowOf (waysL f) i).length))
/-- block i of a function, counted -/
def blkI (u : UniL) (f : FunL) (i : Nat) : Int := match f.blocks[i]? with | some b => blkE u f i b | none => 0
def bodyE (u : UniL) (f : FunL) : Int :=
  if firstE (f.blocks.map fun b => endL f b.fin) = 0 then firstE ((List.range f.blocks.length).map (blkI u f)) else firstE (f.blocks.map fun b => endL f b.fin)

/-- phis and instructions of a function -/
def manyL (f : FunL) : Nat := (f.blocks.map fun b => b.phis.length + b.list.length).sum
def headE (names : List ByteArray) (f : FunL) : Int :=
  if nameB f.name = false then 12
  else if hasB names f.name = true then 7
  else if ¬(0 ≤ f.params ∧ f.params ≤ 6) ∨ ¬(f.params ≤ f.regs ∧ f.regs ≤ 100) then 3
  else if ¬(1 ≤ f.blocks.length ∧ f.blocks.length ≤ 40) ∨ 300 < manyL f then 2
  else 0
/-- the words of the first k globals -/
def wordsTo (u : UniL) (k : Nat) : Int := ((u.globals.take k).map (·.size)).sum
def gloE (names : List ByteArray) (words : Int) (g : GloL) : Int :=
  if nameB g.name = false then 12
  else if hasB names g.name = true then 7
  else if ¬(1 ≤ g.size ∧ g.size ≤ 200) then 3
  else if g.size < g.init.length then 9
  else if 200 < words + g.size then 10
  else 0
def namesG (u : UniL) (k : Nat) : List ByteArray := (u.globals.take k).map (·.name)
def namesF (u : UniL) (k : Nat) : List ByteArray := u.globals.map (·.name) ++ (u.funcs.take k).map (·.name)
def gloI (u : UniL) (i : Nat) : Int := match u.globals[i]? with | some g => gloE (namesG u i) (wordsTo u i) g | none => 0
def headI (u : UniL) (i : Nat) : Int := match u.funcs[i]? with | some f => headE (namesF u i) f | none => 0
def bodyI (u : UniL) (i : Nat) : Int := match u.funcs[i]? with | some f => bodyE u f | none => 0
def mainB (f : FunL) : Bool := f.name.toList == [109, 97, 105, 110]
/-- the place of main -/
def mainAt (u : UniL) : Option Nat := (List.range u.funcs.length).find? fun i => match u.funcs[i]? with | some f => mainB f | none => false
def chkO (u : UniL) : Option (Int × Int) :=
  if 10 < u.globals.length ∨ 10 < u.funcs.length then some (2, 0)
  else match firstAt u.globals.length (gloI u) with
  | some r => some r
  | none => match firstAt u.funcs.length (headI u) with
  | some r => some r
  | none => match firstAt u.funcs.length (bodyI u) with
  | some r => some r
  | none => match mainAt u with
  | none => some (6, 0)
  | some m => if 0 < parU u m then some (5, (m : Int)) else none
def chk (u : UniL) : Int × Int := (chkO u).getD (0, 0)
end Go.Proofs.YtdjamkinijhjoaaDoor
namespace Go.Proofs.YtdjamkinijhjoaaDoor
open Go.RowKit

theorem tos_getD (f : FunL) (i : Nat) (hi : i < f.blocks.length) : (tosL f).getD i [] = f.blocks[i].fin.to := by
  simp [tosL, List.getD, hi]

theorem endE_zero {regs : Int} {nb : Nat} {kind : Int} {r : Bool} {n : Int} {to : List Int} (h : endE regs nb kind r n to = 0) : to.length ≤ 2 ∧ ∀ t ∈ to, 1 ≤ t ∧ t < nb := by
  unfold endE at h
  by_cases a : 1 ≤ kind ∧ kind ≤ 3
  · rw [if_neg (by simpa using a)] at h
    by_cases b : (to.length : Int) = kind - 1
    · rw [if_neg (by simpa using b)] at h
      by_cases c : to.any (fun t => !wthn t 1 ((nb : Int) - 1)) = true
      · rw [if_pos c] at h; cases h
      · refine ⟨by omega, fun t ht => ?_⟩
        rw [List.any_eq_true] at c
        have hc : ¬(!wthn t 1 ((nb : Int) - 1)) = true := fun hh => c ⟨t, ht, hh⟩
        unfold wthn at hc
        simp at hc
        omega
    · rw [if_pos (by simpa using b)] at h; cases h
  · rw [if_pos (by simpa using a)] at h; cases h

theorem heap_set {w : World} {k : Nat} {A : Array Value} {T : TypeId} (h : w.heap[k]? = some (.cells A T (0, 0))) (o : Nat) (v : Value) : (w.setCell ⟨k, o, none⟩ v).heap[k]? = some (.cells (A.setIfInBounds o v) T (0, 0)) := by
  simp [World.setCell, Array.getElem?_modify, h]
theorem Rows2.at {w : World} {B T n : Nat} {ts ti : TypeId} {ps : List (Nat × Nat)} {f : Nat → Value} (h : Rows2 w B T n ts ti ps f) {i : Nat} (hi : i < n) : ∃ q c, w.cell? ⟨T, i, none⟩ = some (.slice q (rowOf ps i).length c) := by
  have hc := h.tab.cell hi
  rcases (h.row i hi).2 with ⟨h1, h2⟩ | ⟨g, cap, cur, h1, _⟩
  · rw [h1] at hc; exact ⟨none, 0, by rw [h2]; exact hc⟩
  · rw [h1] at hc; exact ⟨_, _, hc⟩
theorem blkI_eq {u : UniL} {f : FunL} {k : Nat} (hk : k < f.blocks.length) : blkI u f k = blkE u f k f.blocks[k] := by
  unfold blkI
  rw [List.getElem?_eq_getElem hk]
theorem blkI_phi {u : UniL} {f : FunL} {k j : Nat} (hk : k < f.blocks.length) (hj : j < f.blocks[k].phis.length) (h0 : ∀ i (h : i < f.blocks[k].phis.length), i < j → phiL f k (rowOf (waysL f) k).length f.blocks[k].phis[i] = 0)
    (h : phiL f k (rowOf (waysL f) k).length f.blocks[k].phis[j] ≠ 0) : blkI u f k = phiL f k (rowOf (waysL f) k).length f.blocks[k].phis[j] := by
  rw [blkI_eq hk]
  have hl := firstE_hit (l := f.blocks[k].phis.map (phiL f k (rowOf (waysL f) k).length)) (k := j) (by simpa using hj) (fun i hi => by simpa using h0 i (by omega) hi) (by simpa using h)
  rw [List.getElem_map] at hl
  unfold blkE
  rw [hl, if_neg h]
theorem blkI_ins {u : UniL} {f : FunL} {k j : Nat} (hk : k < f.blocks.length) (hp : ∀ i (h : i < f.blocks[k].phis.length), phiL f k (rowOf (waysL f) k).length f.blocks[k].phis[i] = 0) (hj : j < f.blocks[k].list.length) (h0 : ∀ i (h : i < f.blocks[k].list.length), i < j → insL u f f.blocks[k].list[i] = 0)
    (h : insL u f f.blocks[k].list[j] ≠ 0) : blkI u f k = insL u f f.blocks[k].list[j] := by
  rw [blkI_eq hk]
  have hz : firstE (f.blocks[k].phis.map (phiL f k (rowOf (waysL f) k).length)) = 0 := firstE_zero fun x hx => by
    obtain ⟨b, hb, rfl⟩ := List.mem_map.1 hx
    obtain ⟨i, hi, rfl⟩ := List.mem_iff_getElem.1 hb
    exact hp i hi
  have hl := firstE_hit (l := f.blocks[k].list.map (insL u f)) (k := j) (by simpa using hj) (fun i hi => by simpa using h0 i (by omega) hi) (by simpa using h)
  rw [List.getElem_map] at hl
  unfold blkE
  rw [if_pos hz, hl]
theorem blkI_zero {u : UniL} {f : FunL} {k : Nat} (hk : k < f.blocks.length) (hp : ∀ i (h : i < f.blocks[k].phis.length), phiL f k (rowOf (waysL f) k).length f.blocks[k].phis[i] = 0) (h0 : ∀ i (h : i < f.blocks[k].list.length), insL u f f.blocks[k].list[i] = 0) : blkI u f k = 0 := by
  rw [blkI_eq hk]
  have hz : firstE (f.blocks[k].phis.map (phiL f k (rowOf (waysL f) k).length)) = 0 := firstE_zero fun x hx => by
    obtain ⟨b, hb, rfl⟩ := List.mem_map.1 hx
    obtain ⟨i, hi, rfl⟩ := List.mem_iff_getElem.1 hb
    exact hp i hi
  unfold blkE
  rw [if_pos hz]
  exact firstE_zero fun x hx => by
    obtain ⟨b, hb, rfl⟩ := List.mem_map.1 hx
    obtain ⟨i, hi, rfl⟩ := List.mem_iff_getElem.1 hb
    exact h0 i hi
theorem bodyE_hit {u : UniL} {f : FunL} {k : Nat} {e : Int} (hA : firstE (f.blocks.map fun b => endL f b.fin) = 0) (hk : k < f.blocks.length) (h0 : ∀ j, j < k → blkI u f j = 0) (h : blkI u f k = e) (he : e ≠ 0) : bodyE u f = e := by
  unfold bodyE
  rw [if_pos hA]
  have hl := firstE_hit (l := (List.range f.blocks.length).map (blkI u f)) (k := k) (by simpa using hk) (fun i hi => by simpa using h0 i hi) (by simpa [h] using he)
  rw [hl]
  simpa using h
theorem bodyE_zero {u : UniL} {f : FunL} (hA : firstE (f.blocks.map fun b => endL f b.fin) = 0) (h0 : ∀ j, j < f.blocks.length → blkI u f j = 0) : bodyE u f = 0 := by
  unfold bodyE
  rw [if_pos hA]
  exact firstE_zero fun x hx => by
    obtain ⟨i, hi, rfl⟩ := List.mem_map.1 hx
    exact h0 i (List.mem_range.1 hi)
theorem parAt {w w' : World} {u : UniL} {fp : Option Addr} (h : SliceAt w 4 (FunR w) fp u.funcs) (hb : Below w.heap.size w w') : u.funcs.length = 0 ∨ ∃ fb fo, fp = some ⟨fb, fo, none⟩ ∧ ∀ i, i < u.funcs.length → w'.cell? ⟨fb, fo + i * 4 + 1, none⟩ = some (.int .i64 (parU u i)) := by
  rcases h with h0 | ⟨b, o, hp, h⟩
  · exact .inl (by rw [h0]; rfl)
  · refine .inr ⟨b, o, hp, fun i hi => ?_⟩
    obtain ⟨b2, o2, q, c, hp2, _, e1, _⟩ := funGet (.inr ⟨b, o, hp, h⟩) hb hi
    rw [hp] at hp2
    cases hp2
    rw [e1]
    simp [parU, List.getD, hi]
theorem Ways.below {w w' : World} (h : Ways w) (hb : Below w.heap.size w w') : Ways w' := by
  obtain ⟨h0, h1, h2, h3⟩ := h
  have hl := lt_of_cell h0
  exact ⟨(hb.cell (p := ⟨1, _, none⟩) hl).trans h0, (hb.cell (p := ⟨1, _, none⟩) hl).trans h1, (hb.cell (p := ⟨1, _, none⟩) hl).trans h2, (hb.cell (p := ⟨1, _, none⟩) hl).trans h3⟩

theorem blkAt_of {w w' : World} {b o : Nat} {f : FunL} (h : SliceAt w 6 (BlkR w) (some ⟨b, o, none⟩) f.blocks) (hb : Below w.heap.size w w') (i : Nat) (hi : i < f.blocks.length) : BlkAt w' b o i ((tosL f).getD i []) := by
  obtain ⟨b2, o2, q1, c1, q2, c2, q3, c3, hp, e0, e1, e2, e3, e4, e5, _, _, _, _, _, _, _, ht⟩ := blkGet h hb hi
  cases hp
  rw [tos_getD f i hi]
  exact ⟨_, _, _, _, _, _, _, _, _, _, _, e0, e1, e2, e3, e4, e5, ht⟩

set_option maxRecDepth 100000 in
set_option maxHeartbeats 1000000 in
theorem body_any (u : UniL) (f : FunL) (g1 fp : Option Addr) (g2 g3 fc bc bb bo : Nat) (w : World)
    (h1 : 0 ≤ f.regs) (h2 : f.regs ≤ 100) (hn1 : 1 ≤ f.blocks.length) (hn2 : f.blocks.length ≤ 40)
    (hfl : u.funcs.length ≤ 10) (hF : SliceAt w 4 (FunR w) fp u.funcs) (hb : SliceAt w 6 (BlkR w) (some ⟨bb, bo, none⟩) f.blocks) (hw0 : Ways w) :
    Calls Tryd.prog 36 #[.agg #[.slice g1 g2 g3, .slice fp u.funcs.length fc, .string f.name, .int .i64 f.params, .int .i64 f.regs, .slice (some ⟨bb, bo, none⟩) f.blocks.length bc, .slice none 0 0]] w fun e w' => e = .returned (.int .i64 (bodyE u f)) ∧ Below w.heap.size w w' := by
  have HF : Hid (SliceAt w 4 (FunR w) fp u.funcs) := hF
  have HB : Hid (SliceAt w 6 (BlkR w) (some ⟨bb, bo, none⟩) f.blocks) := hb
  have HW : Hid (Ways w) := hw0
  clear hF hb hw0
  go_enter Tryd.func36, Tryd.ntmps36
  go_wp2
  go_loopw [18] (fun i wr => ∃ k : Nat, k ≤ f.blocks.length ∧ i = .int .i64 k ∧ (∀ j (h : j < f.blocks.length), j < k → endL f f.blocks[j].fin = 0) ∧ Below (w.heap.size + 1) (w.alloc (.cells #[.slice g1 g2 g3, .slice fp u.funcs.length fc, .string f.name, .int .i64 f.params, .int .i64 f.regs, .slice (some ⟨bb, bo, none⟩) f.blocks.length bc, .slice none 0 0] 96)) wr) (fun i _ => f.blocks.length - (intOf i).toNat)
  case atStart => exact ⟨0, by omega, rfl, fun j _ h => by omega, Below.refl _ _⟩
  case round =>
    obtain ⟨k, hk, rfl, hV, hb⟩ := hrel
    have HV := hidI hV
    have HBw := hidI hb
    have hbw : Below w.heap.size w wr := ((Below.refl _ _).alloc (Nat.le_refl _) _).trans (hb.mono (by omega))
    have HBx := hidI hbw
    have hz : w.heap.size < wr.heap.size := by have := hb.size; simp at this; omega
    obtain ⟨hcc, hcf⟩ := blk (heap_below hb (by omega) (heap_here _ _))
    clear hV hb hbw
    by_cases hlt : k < f.blocks.length
    · obtain ⟨b2, o2, q1, c1, q2, c2, q3, c3, hp, e0, e1, e2, e3, e4, e5, _, _, _, _, hl3, _, _, ht⟩ := blkGet HB.out HBx.out hlt
      cases hp
      have HT := hidI ht
      have HE : Hid (endL f f.blocks[k].fin = endE f.regs f.blocks.length f.blocks[k].fin.kind f.blocks[k].fin.onr f.blocks[k].fin.onn f.blocks[k].fin.to) := rfl
      clear ht
      go_wp2_with fail
      refine (end_any _ _ _ _ _ _ _ _ _ _ _ _ _ _ _ _ _ _ _ _ _ _ (by omega) (by omega) (by omega) (by omega) ?_ ?_).mono ?_
      · exact HT.out.mono ((Below.refl _ _).alloc (Nat.le_refl _) _) (by omega) fun _ _ h => h
      · exact HW.out.below (HBx.out.alloc (by omega) _)
      rintro e w3 ⟨rfl, hb3⟩
      have HN : Hid (Below (w.heap.size + 1) (w.alloc (.cells #[.slice g1 g2 g3, .slice fp u.funcs.length fc, .string f.name, .int .i64 f.params, .int .i64 f.regs, .slice (some ⟨bb, bo, none⟩) f.blocks.length bc, .slice none 0 0] 96)) w3) := HBw.out.trans (((Below.refl _ _).alloc (by omega) _).trans (hb3.mono (by simp; omega)))
      generalize hE : endE f.regs f.blocks.length f.blocks[k].fin.kind f.blocks[k].fin.onr f.blocks[k].fin.onn f.blocks[k].fin.to = ee
      have HE2 : Hid (endL f f.blocks[k].fin = ee) := hE
      clear hE HE hb3
      by_cases hz0 : ee = 0
      · have hzb : (ee != 0) = false := by simp [hz0]
        have HZ := hidI hz0
        clear hz0
        go_wp2_with fail
        refine ⟨⟨k + 1, by omega, by go_num, fun j hj hjk => ?_, HN.out⟩, by simp [intOf]; omega⟩
        by_cases hj2 : j < k
        · exact HV.out j hj hj2
        · obtain rfl : j = k := by omega
          rw [HE2.out]; exact HZ.out
      · have hzb : (ee != 0) = true := by simp [hz0]
        have HZ := hidI hz0
        clear hz0
        go_wp2_with fail
        go_ret
        refine ⟨?_, (Below.trans ((Below.refl _ _).alloc (Nat.le_refl _) _) (HN.out.mono (by omega)))⟩
        have hl : firstE (f.blocks.map fun b => endL f b.fin) = ee := by
          have := firstE_hit (l := f.blocks.map fun b => endL f b.fin) (k := k) (by simpa using hlt) (fun j hj => by simpa using HV.out j (by omega) hj) (by simpa [HE2.out] using HZ.out)
          simpa [HE2.out] using this
        unfold bodyE
        rw [hl, if_neg HZ.out]
        rfl
    · have HA : Hid (firstE (f.blocks.map fun b => endL f b.fin) = 0) := by
        refine firstE_zero fun x hx => ?_
        obtain ⟨b, hb, rfl⟩ := List.mem_map.1 hx
        obtain ⟨i, hi, rfl⟩ := List.mem_iff_getElem.1 hb
        exact HV.out i hi (by omega)
      have hcnt : ∀ i, (rowOf (waysL f) i).length ≤ 80 := by
        intro i
        have h1 := rowOf_le (waysL f) i
        have h2 := waysOf_le (tosL f) f.blocks.length f.blocks.length (Nat.le_refl _) (fun i hi => by
          rw [tos_getD f i hi]
          exact (endE_zero (firstE_all HA.out _ (List.mem_map.2 ⟨f.blocks[i], List.getElem_mem hi, rfl⟩))).1)
        unfold waysL at h1 ⊢
        omega
      go_wp2_with fail
      refine (ahead_any _ _ _ _ _ _ _ (tosL f) _ hn2 (fun i hi => blkAt_of HB.out HBx.out i hi) (fun i hi => ?_)).mono ?_
      · rw [tos_getD f i hi]
        exact endE_zero (firstE_all HA.out _ (List.mem_map.2 ⟨f.blocks[i], List.getElem_mem hi, rfl⟩))
      rintro e w2 ⟨⟨F, rfl, hR⟩, hb2⟩
      have hb2c := heap_below hb2 hz (heap_below HBw.out (by omega) (heap_here w _))
      obtain ⟨hcc2, hcf2⟩ := blk hb2c
      have HR := hidI hR
      have HB2 := hidI hb2
      clear hR hb2 hcc hcf
      have hb2c := hidI hb2c
      go_wp2_with fail
      obtain ⟨W, hW⟩ : ∃ W, w2.setCell ⟨w.heap.size, 6, none⟩ (.slice (some ⟨wr.heap.size + 1, 0, none⟩) f.blocks.length f.blocks.length) = W := ⟨_, rfl⟩
      rw [hW]
      have hT := HR.out.tab.lt
      have hWs : W.heap.size = w2.heap.size := by rw [← hW]; simp [World.setCell]
      have hWB : Hid (Below w.heap.size w W) := by
        rw [← hW]
        exact (HBx.out.trans (HB2.out.mono (by omega))).setCell (Nat.le_refl _) _
      have hWc : Hid (W.heap[w.heap.size]? = some (.cells #[.slice g1 g2 g3, .slice fp u.funcs.length fc, .string f.name, .int .i64 f.params, .int .i64 f.regs, .slice (some ⟨bb, bo, none⟩) f.blocks.length bc, .slice (some ⟨wr.heap.size + 1, 0, none⟩) f.blocks.length f.blocks.length] 96)) := by
        rw [← hW]
        exact heap_set hb2c.out 6 _
      have hWr : Hid (∀ i, i < f.blocks.length → ∃ q c, W.cell? ⟨wr.heap.size + 1, i, none⟩ = some (.slice q (rowOf (waysL f) i).length c)) := by
        intro i hi
        obtain ⟨q, c, hc⟩ := HR.out.at hi
        rw [← hW]
        exact ⟨q, c, by rw [World.cell?_of_block (Below.heap_setCell _ _ _ _ (by show wr.heap.size + 1 ≠ w.heap.size; omega))]; exact hc⟩
      have hzW : w.heap.size < W.heap.size := by omega
      clear hW HR HB2 hcc2 hcf2 hb2c HBw HBx HV
      generalize wr.heap.size + 1 = T at hT hWc hWr ⊢
      go_loopw [38] (fun i wr => ∃ k : Nat, k ≤ f.blocks.length ∧ i = .int .i64 k ∧ (∀ j, j < k → blkI u f j = 0) ∧ Below W.heap.size W wr) (fun i _ => f.blocks.length - (intOf i).toNat)
      case atStart => exact ⟨0, by omega, rfl, fun j h => by omega, Below.refl _ _⟩
      case round =>
        obtain ⟨wo, hwo⟩ : ∃ wo : World, wo = wr := ⟨_, rfl⟩
        obtain ⟨k, hk, rfl, hV, hb⟩ := hrel
        have HV := hidI hV
        have HBo := hidI hb
        have hzo : w.heap.size < wr.heap.size := by have := hb.size; omega
        have hzo2 : W.heap.size ≤ wr.heap.size := hb.size
        have HBx : Hid (Below w.heap.size w wr) := hWB.out.trans (hb.mono (by omega))
        have hco := heap_below hb hzW hWc.out
        obtain ⟨hcc, hcf⟩ := blk hco
        have HCo := hidI hco
        clear hV hb hco
        by_cases hlt : k < f.blocks.length
        · obtain ⟨b2, o2, q1, c1, q2, c2, q3, c3, hp, e0, e1, e2, e3, e4, e5, _, _, hl1, hl2, hl3, hph, hins, _⟩ := blkGet HB.out HBx.out hlt
          cases hp
          have HPH := hidI hph
          have HIN := hidI hins
          clear hph hins
          go_wp2_with fail
          subst hwo
          go_loopw [46] (fun i wq => ∃ j : Nat, j ≤ f.blocks[k].phis.length ∧ i = .int .i64 j ∧ (∀ i (h : i < f.blocks[k].phis.length), i < j → phiL f k (rowOf (waysL f) k).length f.blocks[k].phis[i] = 0) ∧ Below (wo.heap.size + 1) (wo.alloc (.cells #[.slice q1 f.blocks[k].phis.length c1, .slice q2 f.blocks[k].list.length c2, .int .i64 f.blocks[k].fin.kind, .bool f.blocks[k].fin.onr, .int .i64 f.blocks[k].fin.onn, .slice q3 f.blocks[k].fin.to.length c3] 50)) wq) (fun i _ => f.blocks[k].phis.length - (intOf i).toNat)
          case atStart => exact ⟨0, by omega, rfl, fun j _ h => by omega, Below.refl _ _⟩
          case round =>
            obtain ⟨j, hj, rfl, hV, hb⟩ := hrel
            have HVp := hidI hV
            have HBp := hidI hb
            have hzp : wo.heap.size < wr.heap.size := by have := hb.size; simp at this; omega
            have HBy : Hid (Below wo.heap.size wo wr) := ((Below.refl _ _).alloc (Nat.le_refl _) _).trans (hb.mono (by omega))
            have hzq : w.heap.size < wr.heap.size := by omega
            clear hcc hcf
            obtain ⟨hcc, hcf⟩ := blk (heap_below HBy.out hzo HCo.out)
            obtain ⟨hcc3, hcf3⟩ := blk (heap_below hb (by omega) (heap_here wo _))
            clear hV hb
            by_cases hjl : j < f.blocks[k].phis.length
            · obtain ⟨b4, o4, q4, c4, hp4, d0, d1, _, hl4, hsr⟩ := phiGet HPH.out HBy.out hjl
              subst hp4
              have HSR := hidI hsr
              obtain ⟨q5, c5, hq5⟩ := hWr.out k hlt
              have HQ5 := hidI hq5
              clear hsr hq5
              have HE : Hid (phiL f k (rowOf (waysL f) k).length f.blocks[k].phis[j] = phiE f.regs k (rowOf (waysL f) k).length f.blocks[k].phis[j].dst f.blocks[k].phis[j].src) := rfl
              go_wp2_with fail
              refine (phi_any _ _ _ _ T 0 _ _ _ _ _ _ _ _ _ _ (rowOf (waysL f) k).length c5 q5 _ _ _ _ _ _ (by omega) (by omega) ?_ ?_ ?_ ?_ ?_ ?_).mono ?_
              · exact hlt
              · omega
              · omega
              · have := hcnt k; omega
              · rw [Nat.zero_add, World.cell?_of_block (Below.heap_alloc _ _ _ (by show T < _; have := HBy.out.size; omega)), HBy.out.cell (p := ⟨T, k, none⟩) (by show T < _; omega)]
                exact (HBo.out.cell (p := ⟨T, k, none⟩) (by show T < _; omega)).trans HQ5.out
              · exact HSR.out.mono ((Below.refl _ _).alloc (Nat.le_refl _) _) (by omega) fun _ _ h => h
              rintro e w3 ⟨rfl, hb3⟩
              generalize hE : phiE f.regs k (rowOf (waysL f) k).length f.blocks[k].phis[j].dst f.blocks[k].phis[j].src = ee
              have HE2 : Hid (phiL f k (rowOf (waysL f) k).length f.blocks[k].phis[j] = ee) := hE
              have HN : Hid (Below (wo.heap.size + 1) (wo.alloc (.cells #[.slice (some ⟨b4, o4, none⟩) f.blocks[k].phis.length c1, .slice q2 f.blocks[k].list.length c2, .int .i64 f.blocks[k].fin.kind, .bool f.blocks[k].fin.onr, .int .i64 f.blocks[k].fin.onn, .slice q3 f.blocks[k].fin.to.length c3] 50)) w3) := HBp.out.trans (((Below.refl _ _).alloc (by omega) _).trans (hb3.mono (by simp; omega)))
              clear hE HE hb3
              by_cases hz0 : ee = 0
              · have hzb : (ee != 0) = false := by simp [hz0]
                have HZ := hidI hz0
                clear hz0
                go_wp2_with fail
                refine ⟨⟨j + 1, by omega, by go_num, fun i hi hij => ?_, HN.out⟩, by simp [intOf]; omega⟩
                by_cases hj2 : i < j
                · exact HVp.out i hi hj2
                · obtain rfl : i = j := by omega
                  rw [HE2.out]; exact HZ.out
              · have hzb : (ee != 0) = true := by simp [hz0]
                have HZ := hidI hz0
                clear hz0
                go_wp2_with fail
                go_ret
                refine ⟨?_, HBx.out.trans (Below.trans ((Below.refl _ _).alloc (by omega) _) (HN.out.mono (by omega)))⟩
                rw [bodyE_hit HA.out hlt HV.out (blkI_phi hlt hjl (fun i hi hij => HVp.out i hi hij) (by rw [HE2.out]; exact HZ.out)) (by rw [HE2.out]; exact HZ.out), HE2.out]
                rfl
            · have HP0 : Hid (∀ i (h : i < f.blocks[k].phis.length), phiL f k (rowOf (waysL f) k).length f.blocks[k].phis[i] = 0) := fun i hi => HVp.out i hi (by omega)
              clear HVp
              go_wp2_with fail
              go_loopw [61] (fun i wq => ∃ j : Nat, j ≤ f.blocks[k].list.length ∧ i = .int .i64 j ∧ (∀ i (h : i < f.blocks[k].list.length), i < j → insL u f f.blocks[k].list[i] = 0) ∧ Below wr.heap.size wr wq) (fun i _ => f.blocks[k].list.length - (intOf i).toNat)
              case atStart => exact ⟨0, by omega, rfl, fun j _ h => by omega, Below.refl _ _⟩
              case round =>
                obtain ⟨wv, hwv⟩ : ∃ wv : World, wv = wr := ⟨_, rfl⟩
                clear hcc hcf hcc3 hcf3
                obtain ⟨j2, hj2, rfl, hV, hb⟩ := hrel
                have HVi := hidI hV
                have HBi := hidI hb
                have HBz : Hid (Below wo.heap.size wo wr) := HBy.out.trans (hb.mono HBy.out.size)
                have hzs : wo.heap.size ≤ wr.heap.size := HBz.out.size
                have hzq2 : w.heap.size < wr.heap.size := by omega
                obtain ⟨hcc, hcf⟩ := blk (heap_below HBz.out hzo HCo.out)
                clear hV hb
                by_cases hjl2 : j2 < f.blocks[k].list.length
                · obtain ⟨b4, o4, q4, c4, hp4, d0, d1, d2, d3, d4, d5, d6, d7, _, _, _, _, _, hl4, hsr⟩ := insGet HIN.out HBz.out hjl2
                  subst hp4
                  have HSR := hidI hsr
                  clear hsr
                  have HE : Hid (insL u f f.blocks[k].list[j2] = insE f.regs u.funcs.length (parU u) f.blocks[k].list[j2].op f.blocks[k].list[j2].dst f.blocks[k].list[j2].an f.blocks[k].list[j2].bn f.blocks[k].list[j2].fn f.blocks[k].list[j2].ar f.blocks[k].list[j2].br f.blocks[k].list[j2].args) := rfl
                  subst hwv
                  go_wp2_with fail
                  refine (ins_any _ _ _ _ _ _ _ _ _ _ _ _ _ _ _ _ _ _ _ _ _ _ _ _ (parU u) _ _ (by omega) (by omega) (by omega) ?_ ?_ ?_).mono ?_
                  · exact parAt HF.out (HBx.out.trans ((HBz.out.mono (by omega)).trans ((Below.refl _ _).alloc (by omega) _)))
                  · omega
                  · exact HSR.out.mono ((Below.refl _ _).alloc (Nat.le_refl _) _) (by omega) fun _ _ h => h
                  rintro e w3 ⟨rfl, hb3⟩
                  generalize hE : insE f.regs u.funcs.length (parU u) f.blocks[k].list[j2].op f.blocks[k].list[j2].dst f.blocks[k].list[j2].an f.blocks[k].list[j2].bn f.blocks[k].list[j2].fn f.blocks[k].list[j2].ar f.blocks[k].list[j2].br f.blocks[k].list[j2].args = ee
                  have HE2 : Hid (insL u f f.blocks[k].list[j2] = ee) := hE
                  have HN : Hid (Below wv.heap.size wv w3) := ((Below.refl _ _).alloc (Nat.le_refl _) _).trans (hb3.mono (by simp))
                  clear hE HE hb3
                  by_cases hz0 : ee = 0
                  · have hzb : (ee != 0) = false := by simp [hz0]
                    have HZ := hidI hz0
                    clear hz0
                    go_wp2_with fail
                    refine ⟨⟨j2 + 1, by omega, by go_num, fun i hi hij => ?_, HBi.out.trans (HN.out.mono HBi.out.size)⟩, by simp [intOf]; omega⟩
                    by_cases hj3 : i < j2
                    · exact HVi.out i hi hj3
                    · obtain rfl : i = j2 := by omega
                      rw [HE2.out]; exact HZ.out
                  · have hzb : (ee != 0) = true := by simp [hz0]
                    have HZ := hidI hz0
                    clear hz0
                    go_wp2_with fail
                    go_ret
                    refine ⟨?_, HBx.out.trans ((HBz.out.trans (HN.out.mono hzs)).mono (by omega))⟩
                    rw [bodyE_hit HA.out hlt HV.out (blkI_ins hlt HP0.out hjl2 (fun i hi hij => HVi.out i hi hij) (by rw [HE2.out]; exact HZ.out)) (by rw [HE2.out]; exact HZ.out), HE2.out]
                    rfl
                · go_wp2_with fail
                  refine ⟨⟨k + 1, by omega, by go_num, fun i hi => ?_, HBo.out.trans (HBz.out.mono hzo2)⟩, by simp [intOf]; omega⟩
                  by_cases hj3 : i < k
                  · exact HV.out i hj3
                  · obtain rfl : i = k := by omega
                    exact blkI_zero hlt HP0.out (fun i hi => HVi.out i hi (by omega))
        · go_wp2
          go_ret
          refine ⟨?_, HBx.out⟩
          rw [bodyE_zero HA.out (fun j hj => HV.out j (by omega))]
          rfl
end Go.Proofs.YtdjamkinijhjoaaDoor
namespace Go.Proofs.YtdjamkinijhjoaaDoor
open Go.RowKit

theorem main_lit : ByteArray.toList ⟨#[109, 97, 105, 110]⟩ = [109, 97, 105, 110] := by decide +kernel

set_option maxHeartbeats 1000000 in
theorem isMain_any (nm : ByteArray) (params regs : Int) (bp : Option Addr) (bl bc : Nat) (w : World) :
    Calls Tryd.prog 38 #[.agg #[.string nm, .int .i64 params, .int .i64 regs, .slice bp bl bc]] w fun e w' => e = .returned (.bool (nm.toList == [109, 97, 105, 110])) ∧ Below w.heap.size w w' := by
  go_enter Tryd.func38, Tryd.ntmps38
  go_wp2
  go_ret
  exact ⟨rfl, by repeat (first | with_reducible exact Below.refl _ _ | with_reducible exact HB3.out | with_reducible refine Below.drew ?_ | with_reducible refine below_drewN ?_ _ | with_reducible refine Below.setCell ?_ ?_ _ | with_reducible refine Below.alloc ?_ ?_ _ | with_reducible exact HB2.out | with_reducible exact HB1.out | with_reducible refine Below.trans ?_ (Below.mono hb3 ?_) | with_reducible refine Below.trans ?_ (Below.mono hb5 ?_) | with_reducible refine Below.trans ?_ (Below.mono hb4 ?_) | omega | (simp; omega) | simp)⟩

def mainI (xs : List FunL) : Option Nat := (List.range xs.length).find? fun i => match xs[i]? with | some f => mainB f | none => false
theorem mainI_hit {xs : List FunL} {k : Nat} (hk : k < xs.length) (h0 : ∀ j (h : j < xs.length), j < k → mainB xs[j] = false) (h : mainB xs[k] = true) : mainI xs = some k := by
  unfold mainI
  refine find_range _ _ _ hk (fun j hj => ?_) ?_
  · rw [List.getElem?_eq_getElem (by omega)]; exact h0 j (by omega) hj
  · rw [List.getElem?_eq_getElem hk]; exact h
theorem mainI_none {xs : List FunL} (h0 : ∀ j (h : j < xs.length), mainB xs[j] = false) : mainI xs = none := by
  unfold mainI
  rw [List.find?_eq_none]
  intro i hi
  have hi := List.mem_range.1 hi
  rw [List.getElem?_eq_getElem hi]
  simp [h0 i hi]
def optI (o : Option Nat) : Int := match o with | some k => (k : Int) | none => -1

set_option maxRecDepth 100000 in
set_option maxHeartbeats 1000000 in
theorem indexMain_any (xs : List FunL) (fp : Option Addr) (fc : Nat) (w : World) (hl : xs.length ≤ 9223372036854775807) (hF : SliceAt w 4 (FunR w) fp xs) :
    Calls Tryd.prog 37 #[.slice fp xs.length fc, .func (.func 38) #[] #[]] w fun e w' => e = .returned (.int .i64 (optI (mainI xs))) ∧ Below w.heap.size w w' := by
  have HF := hidI hF
  clear hF
  go_enter Tryd.func37, Tryd.ntmps37
  go_wp2
  go_loopw [8] (fun i wr => ∃ k : Nat, k ≤ xs.length ∧ i = .int .i64 k ∧ (∀ j (h : j < xs.length), j < k → mainB xs[j] = false) ∧ Below w.heap.size w wr) (fun i _ => xs.length - (intOf i).toNat)
  case atStart => exact ⟨0, by omega, rfl, fun j _ h => by omega, Below.refl _ _⟩
  case round =>
    obtain ⟨k, hk, rfl, hV, hb⟩ := hrel
    have HV := hidI hV
    have HBw := hidI hb
    clear hV hb
    by_cases hlt : k < xs.length
    · obtain ⟨b, o, q, c, hp, e0, e1, e2, e3, _⟩ := funGet HF.out HBw.out hlt
      subst hp
      go_wp2_with fail
      refine (isMain_any _ _ _ _ _ _ _).mono ?_
      rintro e w3 ⟨rfl, hb3⟩
      have HB3 := hidI hb3
      have HE : Hid (mainB xs[k] = (xs[k].name.toList == [109, 97, 105, 110])) := rfl
      clear hb3
      cases hm : (xs[k].name.toList == [109, 97, 105, 110])
      · have HM : Hid (mainB xs[k] = false) := HE.out.trans hm
        clear hm
        go_wp2_with fail
        refine ⟨⟨k + 1, by omega, by go_num, fun j hj hjk => ?_, HBw.out.trans (HB3.out.mono HBw.out.size)⟩, by simp [intOf]; omega⟩
        by_cases hj2 : j < k
        · exact HV.out j hj hj2
        · obtain rfl : j = k := by omega
          exact HM.out
      · have HM : Hid (mainB xs[k] = true) := HE.out.trans hm
        clear hm
        go_wp2_with fail
        go_ret
        refine ⟨?_, HBw.out.trans (HB3.out.mono HBw.out.size)⟩
        rw [mainI_hit hlt HV.out HM.out]
        rfl
    · go_wp2_with fail
      go_ret
      refine ⟨?_, HBw.out⟩
      rw [mainI_none (fun j hj => HV.out j hj (by omega))]
      rfl
end Go.Proofs.YtdjamkinijhjoaaDoor
