/-
  Plain: an instruction of a function of the call's own taken out, and put back another one.
Plain: the unit without the functions that main does not reach.
Plain: functions of the call's own, an instruction after the other turned: one step, by the numbers of its function, block and place.
-/
import Derived.Test.YtdjamkinijhjoaaDoorBCopC
import Derived.Test.YtdjamkinijhjoaaDoorBEach
namespace Go.Proofs.YtdjamkinijhjoaaDoor
open Go.RowKit

/-- an element of a slice of the call's own, read -/
theorem SlW.cell {α : Type} {e : TypeId} {size : Nat} {R : ElemO α} {w : World} {v : Value} {xs : List α} {S : Blks} {cs : Nat → List Value} {T : Nat → Blks} (h : SlW e size R w v xs S cs T) {i : Nat} (hi : i < xs.length) : ∃ g c, v = .slice (some ⟨g, 0, none⟩) xs.length c ∧ S g ∧ g < w.heap.size ∧ ∀ j, j < size → w.cell? ⟨g, i * size + j, none⟩ = (cs i)[j]? := by
  rcases h.own.2 with ⟨_, h2⟩ | ⟨g, cap, cur, hv, _, hg, _, _, _, htk⟩
  · omega
  refine ⟨g, cap, hv, h.blk g (by rw [hv]; rfl), (Array.getElem?_eq_some_iff.1 hg).1, fun j hj => ?_⟩
  rw [cell_of_row w g _ cur e (0, 0) hg]
  have hlt : i * size + j < xs.length * size := by
    have : (i + 1) * size ≤ xs.length * size := Nat.mul_le_mul_right _ hi
    rw [Nat.add_mul] at this
    omega
  rw [← flat_get xs.length h.len i j hi hj, ← htk, List.getElem?_take_of_lt hlt, Array.getElem?_toList]

def putL (b : BlkL) (l : List InsL) : BlkL := { b with list := l }
def setI (f : FunL) (m j : Nat) (i : InsL) : FunL := { f with blocks := f.blocks.modify m fun b => putL b (b.list.set j i) }
theorem setI_list {f : FunL} {m j : Nat} {i : InsL} (hm : m < f.blocks.length) : f.blocks.modify m (fun b => putL b (b.list.set j i)) = f.blocks.set m (putL f.blocks[m] (f.blocks[m].list.set j i)) := by
  refine List.ext_getElem (by simp) fun k h1 h2 => ?_
  have h3 : k < f.blocks.length := by simpa using h1
  rw [List.getElem_modify, List.getElem_set]
  split
  · next e => subst e; rfl
  · rfl

theorem FunO.ins {w : World} {cs : List Value} {f : FunL} {T : Blks} (h : FunO w cs f T) {m j : Nat} (hm : m < f.blocks.length) (hj : j < f.blocks[m].list.length) : ∃ bb cb lb c2 ci Ti, cs = [.string f.name, .int .i64 f.params, .int .i64 f.regs, .slice (some ⟨bb, 0, none⟩) f.blocks.length cb] ∧
    w.cell? ⟨bb, m * 6 + 1, none⟩ = some (.slice (some ⟨lb, 0, none⟩) f.blocks[m].list.length c2) ∧ T bb ∧ T lb ∧ lb ≠ bb ∧ InsO w ci f.blocks[m].list[j] Ti ∧ ¬ Ti lb ∧ ¬ Ti bb ∧ (∀ k, Ti k → T k) ∧ (∀ jj, jj < 8 → w.cell? ⟨lb, j * 8 + jj, none⟩ = ci[jj]?) ∧ ci.length = 8 ∧ (∀ o, w.frozen? ⟨lb, o, none⟩ = false) ∧ (∃ cur, w.heap[lb]? = some (.cells cur 53 (0, 0))) ∧
    ∀ (w' : World) (ci' : List Value) (i' : InsL) (Ti' : Blks), RowPut w w' 53 lb (j * 8) 8 ci' → ci'.length = 8 → (∀ u ∈ ci', u.oneCell' = true) → w.heap.size ≤ w'.heap.size → (∀ k, T k → ¬ Ti k → k ≠ lb → w'.heap[k]? = w.heap[k]?) →
      InsO w' ci' i' Ti' → (∀ k, Ti' k → (Ti k ∨ w.heap.size ≤ k) ∧ k < w'.heap.size) → FunO w' cs (setI f m j i') (fun k => T k ∨ Ti' k) := by
  obtain ⟨v, hcs, hnm, i1, i2, hB⟩ := h
  obtain ⟨bb, cb, cB, TB, hv, hbs, hTb, hlB, hBlk, hnb, hTB, hcB, hfB, ⟨curB, hcurB⟩, hput⟩ := hB.sl.focus locBlk (by omega) hm
  obtain ⟨v1, v2, v3, S1, S2, S3, rfl, j1, j2, h3, h4, h5, a1, a2, a3, g1, g2, g3⟩ := hBlk
  obtain ⟨lb, c2, ci, Ti, hv2, hls, hSl, hli, hI, hnl, hTi, hci, hfi, hcur, hput2⟩ := h4.sl.focus locIns (by omega) hj
  subst hv hv2
  have hne : lb ≠ bb := fun e => hnb (g2 _ (by rw [← e]; exact hSl))
  refine ⟨bb, cb, lb, c2, ci, Ti, hcs, (hcB 1 (by omega)), hTb, hTB _ (g2 _ hSl), hne, hI, hnl, fun h => hnb (g2 _ (hTi _ h)), fun k hk => hTB _ (g2 _ (hTi _ hk)), hci, hli, hfi, hcur, ?_⟩
  intro w' ci' i' Ti' hp hl' h1' hs hk hI' hT'
  have e1 : ∀ k, T k → ¬ Ti k → k ≠ lb → w'.heap[k]? = w.heap[k]? := hk
  have hL := hput2 w' ci' i' Ti' hp hl' h1' hs (fun k hk1 hk2 hk3 => e1 k (hTB _ (g2 _ hk1)) hk2 hk3) hI' hT'
  have hlen : (f.blocks[m].list.set j i').length = f.blocks[m].list.length := by simp
  have h1n : ∀ k, S1 k → w'.heap[k]? = w.heap[k]? := fun k hk => e1 k (hTB _ (g1 _ hk)) (fun h => a1 _ hk (hTi _ h)) (fun e => a1 _ hk (by rw [e]; exact hSl))
  have h3n : ∀ k, S3 k → w'.heap[k]? = w.heap[k]? := fun k hk => e1 k (hTB _ (g3 _ hk)) (fun h => a3 _ (hTi _ h) hk) (fun e => a3 _ hSl (by rw [← e]; exact hk))
  have hbbn : w'.heap[bb]? = w.heap[bb]? := e1 bb hTb (fun h => hnb (g2 _ (hTi _ h))) (fun e => hne e.symm)
  have hB' : BlkO w' [v1, .slice (some ⟨lb, 0, none⟩) f.blocks[m].list.length c2, .int .i64 f.blocks[m].fin.kind, .bool f.blocks[m].fin.onr, .int .i64 f.blocks[m].fin.onn, v3] (putL f.blocks[m] (f.blocks[m].list.set j i')) (fun k => TB k ∨ Ti' k) := by
    refine ⟨v1, _, v3, S1, fun k => S2 k ∨ Ti' k, S3, rfl, j1, j2, h3.loc locPhi (fun _ g => g) h1n hs, ⟨?_, by show (f.blocks[m].list.set j i').length * 80 ≤ _; rw [hlen]; exact h4.bd⟩, h5.loc locInt (fun _ g => g) h3n hs, fun k x y => ?_, a2, fun k x y => ?_, fun k x => .inl (g1 k x), fun k x => ?_, fun k x => .inl (g3 k x)⟩
    · exact hL
    · rcases y with y | y
      · exact a1 k x y
      · rcases (hT' k y).1 with z | z
        · exact a1 k x (hTi _ z)
        · have := h3.sl.inb k x; omega
    · rcases x with x | x
      · exact a3 k x y
      · rcases (hT' k x).1 with z | z
        · exact a3 k (hTi _ z) y
        · have := h5.sl.inb k y; omega
    · rcases x with x | x
      · exact .inl (g2 k x)
      · exact .inr x
  have hblen : (f.blocks.set m (putL f.blocks[m] (f.blocks[m].list.set j i'))).length = f.blocks.length := by simp
  have hF := hput w' _ (putL f.blocks[m] (f.blocks[m].list.set j i')) (fun k => TB k ∨ Ti' k) (RowPut.same hcurB hbbn hcB) hlB (fun u hu => ?_) hs (fun k hk1 hk2 hk3 => e1 k hk1 (fun h => hk2 (g2 _ (hTi _ h))) (fun e => hk2 (by rw [e]; exact g2 _ hSl))) hB' (fun k hk => ?_)
  · refine ⟨.slice (some ⟨bb, 0, none⟩) f.blocks.length cb, hcs, hnm, i1, i2, ⟨?_, ?_⟩⟩
    · show SlO _ _ _ _ _ (f.blocks.modify m _) _
      rw [setI_list hm]
      exact hF.grow (fun k hk => by rcases hk with x | x | x; · exact .inl x
                                    · exact .inl (hTB _ x)
                                    · exact .inr x) (fun k hk => by
        rcases hk with x | x
        · exact Nat.lt_of_lt_of_le (hB.sl.inb k x) hs
        · exact (hT' k x).2)
    · show (f.blocks.modify m _).length * 96 ≤ _
      rw [setI_list hm, hblen]
      exact hB.bd
  · obtain ⟨q1, d1, rfl, _⟩ := h3.sl.val
    obtain ⟨q3, d3, rfl, _⟩ := h5.sl.val
    simp only [List.mem_cons, List.not_mem_nil, or_false] at hu
    rcases hu with rfl | rfl | rfl | rfl | rfl | rfl <;> rfl
  · rcases hk with x | x
    · exact ⟨.inl x, Nat.lt_of_lt_of_le (hB.sl.inb k (hTB k x)) hs⟩
    · refine ⟨?_, (hT' k x).2⟩
      rcases (hT' k x).1 with z | z
      · exact .inl (g2 _ (hTi _ z))
      · exact .inr z
end Go.Proofs.YtdjamkinijhjoaaDoor
namespace Go.Proofs.YtdjamkinijhjoaaDoor

def cnt (had : Nat → Bool) : Nat → Nat
  | 0 => 0
  | k + 1 => cnt had k + if had k then 1 else 0
def keepTo (had : Nat → Bool) (xs : List FunL) : Nat → List FunL
  | 0 => []
  | k + 1 => keepTo had xs k ++ if had k then (match xs[k]? with | some f => [f] | none => []) else []
def atD (had : Nat → Bool) (k j : Nat) : Int := if j < k ∧ had j = true then (cnt had j : Int) else 0
def renI (at_ : Int → Int) (i : InsL) : InsL := if i.op = 20 then { i with fn := at_ i.fn } else i
def renF (at_ : Int → Int) (f : FunL) : FunL := { f with blocks := f.blocks.map fun b => putL b (b.list.map (renI at_)) }
/-- without those that are not reached -/
def doneU (had : Nat → Bool) (u : UniL) : UniL := { globals := u.globals, funcs := (keepTo had u.funcs u.funcs.length).map (renF fun x => atD had u.funcs.length x.toNat) }

theorem keepTo_len (had : Nat → Bool) (xs : List FunL) : ∀ k, k ≤ xs.length → (keepTo had xs k).length = cnt had k
  | 0, _ => rfl
  | k + 1, h => by
    have hk : k < xs.length := h
    rw [keepTo, cnt, List.length_append, keepTo_len had xs k (by omega), List.getElem?_eq_getElem hk]
    split <;> simp
theorem cnt_le (had : Nat → Bool) : ∀ k, cnt had k ≤ k
  | 0 => Nat.le_refl _
  | k + 1 => by
    have := cnt_le had k
    rw [cnt]
    split <;> omega
theorem cnt_mono (had : Nat → Bool) {a : Nat} : ∀ {b}, a ≤ b → cnt had a ≤ cnt had b
  | 0, h => by
    obtain rfl : a = 0 := by omega
    exact Nat.le_refl _
  | b + 1, h => by
    rcases Nat.lt_or_ge a (b + 1) with g | g
    · have := cnt_mono had (a := a) (b := b) (by omega)
      rw [cnt]
      omega
    · obtain rfl : a = b + 1 := by omega
      exact Nat.le_refl _
theorem cnt_lt (had : Nat → Bool) {a b : Nat} (h : a < b) (ha : had a = true) : cnt had a < cnt had b := by
  have := cnt_mono had (a := a + 1) (b := b) h
  rw [cnt, ha] at this
  simp at this
  omega
/-- each function that is kept stands at its number -/
theorem keepTo_get (had : Nat → Bool) (xs : List FunL) {a : Nat} (ha : a < xs.length) (hh : had a = true) : ∀ {k}, a < k → (keepTo had xs k)[cnt had a]? = some xs[a]
  | 0, h => by omega
  | k + 1, h => by
    rw [keepTo]
    rcases Nat.lt_or_ge a k with g | g
    · have := keepTo_get had xs ha hh g
      rw [List.getElem?_append_left (List.getElem?_eq_some_iff.1 this).1]
      exact this
    · obtain rfl : a = k := by omega
      rw [List.getElem?_append_right (by rw [keepTo_len had xs a (by omega)]; exact Nat.le_refl _), keepTo_len had xs a (by omega), Nat.sub_self, if_pos hh, List.getElem?_eq_getElem ha]
      rfl

theorem keepTo_mem {had : Nat → Bool} {xs : List FunL} {f : FunL} : ∀ {k}, f ∈ keepTo had xs k → ∃ a, ∃ h : a < xs.length, a < k ∧ had a = true ∧ xs[a] = f
  | 0, h => by simp [keepTo] at h
  | k + 1, h => by
    rw [keepTo, List.mem_append] at h
    rcases h with h | h
    · obtain ⟨a, h1, h2, h3⟩ := keepTo_mem h
      exact ⟨a, h1, by omega, h3⟩
    · split at h
      · rename_i hh
        cases e : xs[k]? with
        | none => rw [e] at h; simp at h
        | some y =>
          rw [e] at h
          simp only [List.mem_cons, List.not_mem_nil, or_false] at h
          subst h
          obtain ⟨h1, h2⟩ := List.getElem?_eq_some_iff.1 e
          exact ⟨k, h1, by omega, hh, h2⟩
      · simp at h
theorem keepTo_succ_yes {had : Nat → Bool} {xs : List FunL} {k : Nat} (hk : k < xs.length) (h : had k = true) : keepTo had xs (k + 1) = keepTo had xs k ++ [xs[k]] := by
  rw [keepTo, if_pos h, List.getElem?_eq_getElem hk]
theorem keepTo_succ_no {had : Nat → Bool} {xs : List FunL} {k : Nat} (h : had k = false) : keepTo had xs (k + 1) = keepTo had xs k := by
  rw [keepTo, h]
  simp
theorem atD_yes {had : Nat → Bool} {k : Nat} (h : had k = true) (j : Nat) : (if j = k then (cnt had k : Int) else atD had k j) = atD had (k + 1) j := by
  unfold atD
  by_cases e : j = k
  · subst e
    simp [h]
  · rw [if_neg e]
    by_cases e2 : j < k
    · simp [e2, show j < k + 1 by omega]
    · simp [e2, show ¬ j < k + 1 by omega]
theorem atD_no {had : Nat → Bool} {k : Nat} (h : had k = false) (j : Nat) : atD had (k + 1) j = atD had k j := by
  unfold atD
  by_cases e : j = k
  · subst e
    simp [h]
  · by_cases e2 : j < k
    · simp [e2, show j < k + 1 by omega]
    · simp [e2, show ¬ j < k + 1 by omega]
theorem atD_zero (had : Nat → Bool) (j : Nat) : atD had 0 j = 0 := by simp [atD]

/-! an instruction after the other made anew -/
def listLen (f : FunL) (m : Nat) : Nat := (f.blocks[m]?.map fun b => b.list.length).getD 0
theorem listLen_eq {f : FunL} {m : Nat} (h : m < f.blocks.length) : listLen f m = f.blocks[m].list.length := by simp [listLen, h]
/-- the instructions ahead of number i are made anew -/
def upI (g : Nat → InsL → InsL) (f : FunL) (i : Nat) : FunL :=
  { f with blocks := f.blocks.mapIdx fun m b => putL b (b.list.mapIdx fun j x => if (posL (listLen f) m).length + j < i then g ((posL (listLen f) m).length + j) x else x) }
theorem upI_zero (g : Nat → InsL → InsL) (f : FunL) : upI g f 0 = f := by
  unfold upI putL
  cases f with
  | mk n p r bs =>
    simp only [FunL.mk.injEq, true_and]
    refine List.ext_getElem (by simp) fun m h1 h2 => ?_
    simp only [List.getElem_mapIdx]
    cases e : bs[m] with
    | mk a l c =>
      simp only [BlkL.mk.injEq, true_and, and_true]
      refine List.ext_getElem (by simp) fun j h3 h4 => ?_
      simp
theorem upI_len (g : Nat → InsL → InsL) (f : FunL) (i : Nat) : (upI g f i).blocks.length = f.blocks.length := by simp [upI]
theorem upI_list {g : Nat → InsL → InsL} {f : FunL} {i m : Nat} (h : m < f.blocks.length) : ((upI g f i).blocks[m]'(by rw [upI_len]; exact h)).list.length = f.blocks[m].list.length := by simp [upI, putL]
theorem upI_listLen (g : Nat → InsL → InsL) (f : FunL) (i m : Nat) : listLen (upI g f i) m = listLen f m := by
  rcases Nat.lt_or_ge m f.blocks.length with h | h
  · rw [listLen_eq h, listLen_eq (by rw [upI_len]; exact h), upI_list h]
  · simp [listLen, List.getElem?_eq_none h, List.getElem?_eq_none (show (upI g f i).blocks.length ≤ m by rw [upI_len]; exact h)]
theorem upI_get {g : Nat → InsL → InsL} {f : FunL} {m j : Nat} (hm : m < f.blocks.length) (hj : j < f.blocks[m].list.length) : ((upI g f ((posL (listLen f) m).length + j)).blocks[m]'(by rw [upI_len]; exact hm)).list[j]'(by rw [upI_list hm]; exact hj) = f.blocks[m].list[j] := by
  simp [upI, putL]
theorem posL_inj {ll : Nat → Nat} {n a b x y : Nat} (ha : a < n) (hb : b < n) (hx : x < ll a) (hy : y < ll b) (e : (posL ll a).length + x = (posL ll b).length + y) : a = b ∧ x = y := by
  have h1 := posL_at ha hx
  have h2 := posL_at hb hy
  rw [e, h2] at h1
  simpa using h1.symm
theorem upI_succ {g : Nat → InsL → InsL} {f : FunL} {m j : Nat} (hm : m < f.blocks.length) (hj : j < f.blocks[m].list.length) : setI (upI g f ((posL (listLen f) m).length + j)) m j (g ((posL (listLen f) m).length + j) f.blocks[m].list[j]) = upI g f ((posL (listLen f) m).length + j + 1) := by
  have hlm := listLen_eq hm
  unfold setI
  rw [setI_list (by rw [upI_len]; exact hm)]
  unfold upI putL
  simp only [FunL.mk.injEq, true_and]
  refine List.ext_getElem (by simp) fun a h1 h2 => ?_
  have ha : a < f.blocks.length := by simpa using h2
  rw [List.getElem_set]
  simp only [List.getElem_mapIdx]
  split
  · next e =>
    subst e
    simp only [BlkL.mk.injEq, true_and, and_true]
    refine List.ext_getElem (by simp) fun b h3 h4 => ?_
    have hb : b < f.blocks[m].list.length := by simpa using h4
    rw [List.getElem_set]
    simp only [List.getElem_mapIdx]
    split
    · next e => subst e; rw [if_pos (by omega)]
    · next e =>
      by_cases h5 : b < j
      · rw [if_pos (by omega), if_pos (by omega)]
      · rw [if_neg (by omega), if_neg (by omega)]
  · next e =>
    simp only [BlkL.mk.injEq, true_and, and_true]
    refine List.ext_getElem (by simp) fun b h3 h4 => ?_
    have hb : b < f.blocks[a].list.length := by simpa using h4
    simp only [List.getElem_mapIdx]
    have hne : (posL (listLen f) a).length + b ≠ (posL (listLen f) m).length + j := fun e2 => e (posL_inj ha hm (by rw [listLen_eq ha]; exact hb) (by rw [hlm]; exact hj) e2).1.symm
    by_cases h5 : (posL (listLen f) a).length + b < (posL (listLen f) m).length + j
    · rw [if_pos h5, if_pos (by omega)]
    · rw [if_neg h5, if_neg (by omega)]
/-- all of them -/
theorem upI_all (g : InsL → InsL) (f : FunL) : upI (fun _ => g) f (posL (listLen f) f.blocks.length).length = { f with blocks := f.blocks.map fun b => putL b (b.list.map g) } := by
  unfold upI putL
  simp only [FunL.mk.injEq, true_and]
  refine List.ext_getElem (by simp) fun a h1 h2 => ?_
  have ha : a < f.blocks.length := by simpa using h2
  simp only [List.getElem_mapIdx, List.getElem_map, BlkL.mk.injEq, true_and, and_true]
  refine List.ext_getElem (by simp) fun b h3 h4 => ?_
  have hb : b < f.blocks[a].list.length := by simpa using h4
  simp only [List.getElem_mapIdx, List.getElem_map]
  rw [if_pos (posL_lt ha (by rw [listLen_eq ha]; exact hb))]
theorem setI_same {f : FunL} {m j : Nat} (hm : m < f.blocks.length) (hj : j < f.blocks[m].list.length) : setI f m j f.blocks[m].list[j] = f := by
  unfold setI
  rw [setI_list hm]
  cases f with
  | mk n p r bs =>
    simp only [FunL.mk.injEq, true_and]
    have h1 : putL bs[m] (bs[m].list.set j bs[m].list[j]) = bs[m] := by
      unfold putL
      rw [List.set_getElem_self]
    rw [h1, List.set_getElem_self]
theorem upI_same {g : Nat → InsL → InsL} {f : FunL} {m j : Nat} (hm : m < f.blocks.length) (hj : j < f.blocks[m].list.length) (h : g ((posL (listLen f) m).length + j) f.blocks[m].list[j] = f.blocks[m].list[j]) : upI g f ((posL (listLen f) m).length + j) = upI g f ((posL (listLen f) m).length + j + 1) := by
  have h1 := upI_succ (g := g) hm hj
  rw [h] at h1
  rw [← h1]
  have hm2 : m < (upI g f ((posL (listLen f) m).length + j)).blocks.length := by rw [upI_len]; exact hm
  have hj2 : j < ((upI g f ((posL (listLen f) m).length + j)).blocks[m]'hm2).list.length := by rw [upI_list hm]; exact hj
  have h2 := setI_same (f := upI g f ((posL (listLen f) m).length + j)) hm2 hj2
  rw [upI_get hm hj] at h2
  exact h2.symm

/-- the first k functions made anew -/
def renTo (at_ : Int → Int) (xs : List FunL) (k : Nat) : List FunL := xs.mapIdx fun a x => if a < k then renF at_ x else x
theorem renTo_zero (at_ : Int → Int) (xs : List FunL) : renTo at_ xs 0 = xs := by
  refine List.ext_getElem (by simp [renTo]) fun a h1 h2 => ?_
  simp [renTo]
theorem renTo_len (at_ : Int → Int) (xs : List FunL) (k : Nat) : (renTo at_ xs k).length = xs.length := by simp [renTo]
theorem renTo_all (at_ : Int → Int) (xs : List FunL) : renTo at_ xs xs.length = xs.map (renF at_) := by
  refine List.ext_getElem (by simp [renTo]) fun a h1 h2 => ?_
  have ha : a < xs.length := by simpa using h2
  simp [renTo, ha]
theorem renTo_get {at_ : Int → Int} {xs : List FunL} {k : Nat} (hk : k < xs.length) : (renTo at_ xs k)[k]'(by rw [renTo_len]; exact hk) = xs[k] := by
  simp [renTo]
theorem renTo_set {at_ : Int → Int} {xs : List FunL} {k : Nat} (hk : k < xs.length) : (renTo at_ xs k).set k (renF at_ xs[k]) = renTo at_ xs (k + 1) := by
  refine List.ext_getElem (by simp [renTo_len]) fun a h1 h2 => ?_
  rw [List.getElem_set]
  split
  · next e =>
    subst e
    simp [renTo]
  · next e =>
    simp only [renTo, List.getElem_mapIdx]
    by_cases g : a < k
    · rw [if_pos g, if_pos (by omega)]
    · rw [if_neg g, if_neg (by omega)]

/-! where a function's lists of instructions lie, read off the world -/
def lqW (w : World) (bb m : Nat) : Option Addr := match w.cell? ⟨bb, m * 6 + 1, none⟩ with | some (.slice q _ _) => q | _ => none
def lcW (w : World) (bb m : Nat) : Nat := match w.cell? ⟨bb, m * 6 + 1, none⟩ with | some (.slice _ _ c) => c | _ => 0
def lpW (w : World) (bb m : Nat) : Nat × Nat := match lqW w bb m with | some a => (a.block, a.off) | none => (0, 0)
theorem FunO.lists {w : World} {cs : List Value} {f : FunL} {T : Blks} (h : FunO w cs f T) (h0 : 0 < f.blocks.length) : ∃ bb cb, cs = [.string f.name, .int .i64 f.params, .int .i64 f.regs, .slice (some ⟨bb, 0, none⟩) f.blocks.length cb] ∧ T bb ∧ f.blocks.length * 96 ≤ reachBytes ∧
    ∀ m, m < f.blocks.length → w.cell? ⟨bb, m * 6 + 1, none⟩ = some (.slice (lqW w bb m) (listLen f m) (lcW w bb m)) ∧ listLen f m * 80 ≤ reachBytes ∧ (0 < listLen f m → lqW w bb m = some ⟨(lpW w bb m).1, (lpW w bb m).2, none⟩) := by
  obtain ⟨v, hcs, hnm, i1, i2, hB⟩ := h
  obtain ⟨bb, cb, cB0, TB0, hv, hbs, hTb, _⟩ := hB.sl.focus locBlk (by omega) h0
  subst hv
  refine ⟨bb, cb, hcs, hTb, hB.bd, fun m hm => ?_⟩
  obtain ⟨bb', cb', cB, TB, hv', _, _, _, hBlk, _, _, hcB, _⟩ := hB.sl.focus locBlk (by omega) hm
  cases hv'
  obtain ⟨v1, v2, v3, S1, S2, S3, rfl, j1, j2, h3, h4, h5, _⟩ := hBlk
  obtain ⟨q, c, rfl, _, _⟩ := h4.sl.val
  have hc : w.cell? ⟨bb, m * 6 + 1, none⟩ = some (.slice q f.blocks[m].list.length c) := hcB 1 (by omega)
  have e1 : lqW w bb m = q := by unfold lqW; rw [hc]
  have e2 : lcW w bb m = c := by unfold lcW; rw [hc]
  rw [e1, e2, listLen_eq hm]
  refine ⟨hc, h4.bd, fun hpos => ?_⟩
  obtain ⟨lb, c2, _, _, hv2, _⟩ := h4.sl.focus locIns (by omega) hpos
  have e3 : q = some ⟨lb, 0, none⟩ := by injection hv2
  unfold lpW
  rw [e1, e3]
end Go.Proofs.YtdjamkinijhjoaaDoor
namespace Go.Proofs.YtdjamkinijhjoaaDoor
open Go.RowKit

/-- where a function of a slice has its blocks, and these their lists -/
structure FunSh (g k bb nb cb : Nat) (lq : Nat → Option Addr) (ll lc : Nat → Nat) (W : World) : Prop where
  fn : W.cell? ⟨g, k * 4 + 3, none⟩ = some (.slice (some ⟨bb, 0, none⟩) nb cb)
  blk : ∀ m, m < nb → W.cell? ⟨bb, m * 6 + 1, none⟩ = some (.slice (lq m) (ll m) (lc m))
theorem FunSh.other {g k bb nb cb : Nat} {lq : Nat → Option Addr} {ll lc : Nat → Nat} {W W' : World} (h : FunSh g k bb nb cb lq ll lc W) (h1 : W'.heap[g]? = W.heap[g]?) (h2 : W'.heap[bb]? = W.heap[bb]?) : FunSh g k bb nb cb lq ll lc W' :=
  ⟨(World.cell?_of_block (a := ⟨g, _, none⟩) h1).trans h.fn, fun m hm => (World.cell?_of_block (a := ⟨bb, _, none⟩) h2).trans (h.blk m hm)⟩
/-- a function of the slice, and where all of it lies -/
theorem SlO.shape {W : World} {g n c k : Nat} {zs : List FunL} {S : Blks} (h : SlO 37 4 FunO W (.slice (some ⟨g, 0, none⟩) n c) zs S) (hk : k < zs.length) (h0 : 0 < zs[k].blocks.length) : ∃ bb cb, FunSh g k bb zs[k].blocks.length cb (lqW W bb) (listLen zs[k]) (lcW W bb) W ∧ S bb ∧ S g ∧ g < W.heap.size ∧ zs[k].blocks.length * 96 ≤ reachBytes ∧
    ∀ m, m < zs[k].blocks.length → listLen zs[k] m * 80 ≤ reachBytes ∧ (0 < listLen zs[k] m → lqW W bb m = some ⟨(lpW W bb m).1, (lpW W bb m).2, none⟩) := by
  obtain ⟨g', c', cs, T, hv, hgz, hgS, hcl, hF, hgT, hTS, hce, _⟩ := h.focus locFun (by omega) hk
  have hg : g = g' := by
    injection hv with a
    injection a with a
    injection a
  subst hg
  obtain ⟨bb, cb, hcs, hTb, hl, hls⟩ := hF.lists h0
  refine ⟨bb, cb, ⟨by rw [hce 3 (by omega), hcs]; rfl, fun m hm => (hls m hm).1⟩, hTS bb hTb, hgS, hgz, hl, fun m hm => (hls m hm).2⟩
theorem turn_step {W : World} {g n c k m j bb cb : Nat} {zs : List FunL} {S : Blks} {G : Nat → InsL → InsL} {f : FunL} {lq : Nat → Option Addr} {lc : Nat → Nat} (h : SlO 37 4 FunO W (.slice (some ⟨g, 0, none⟩) n c) (zs.set k (upI G f ((posL (listLen f) m).length + j))) S) (hk : k < zs.length)
    (hm : m < f.blocks.length) (hj : j < f.blocks[m].list.length) (hsh : FunSh g k bb f.blocks.length cb lq (listLen f) lc W) :
    ∃ lb qa ca, lq m = some ⟨lb, 0, none⟩ ∧ S lb ∧ lb < W.heap.size ∧ (∀ o, W.frozen? ⟨lb, o, none⟩ = false) ∧ (∀ i, i < 8 → W.cell? ⟨lb, j * 8 + i, none⟩ = [.int .i64 f.blocks[m].list[j].op, .int .i64 f.blocks[m].list[j].dst, .bool f.blocks[m].list[j].ar, .int .i64 f.blocks[m].list[j].an, .bool f.blocks[m].list[j].br, .int .i64 f.blocks[m].list[j].bn, .int .i64 f.blocks[m].list[j].fn, .slice qa f.blocks[m].list[j].args.length ca][i]?) ∧ lb ≠ g ∧ lb ≠ bb ∧
      (G ((posL (listLen f) m).length + j) f.blocks[m].list[j] = f.blocks[m].list[j] → SlO 37 4 FunO W (.slice (some ⟨g, 0, none⟩) n c) (zs.set k (upI G f ((posL (listLen f) m).length + j + 1))) S) ∧
      ∀ n', I64 n' → G ((posL (listLen f) m).length + j) f.blocks[m].list[j] = { f.blocks[m].list[j] with fn := n' } → SlO 37 4 FunO (W.setCell ⟨lb, j * 8 + 6, none⟩ (.int .i64 n')) (.slice (some ⟨g, 0, none⟩) n c) (zs.set k (upI G f ((posL (listLen f) m).length + j + 1))) S := by
  have hkl : k < (zs.set k (upI G f ((posL (listLen f) m).length + j))).length := by rw [List.length_set]; exact hk
  obtain ⟨g', c', cs', T', hv', hgz', hgS', hcl', hF', hgT', hTS', hce', hfr', ⟨cur', hcur'⟩, hput'⟩ := h.focus locFun (by omega) hkl
  have hg' : g = g' := by
    injection hv' with a
    injection a with a
    injection a
  subst hg'
  rw [List.getElem_set_self] at hF'
  have hmu : m < (upI G f ((posL (listLen f) m).length + j)).blocks.length := by rw [upI_len]; exact hm
  have hju : j < ((upI G f ((posL (listLen f) m).length + j)).blocks[m]'hmu).list.length := by rw [upI_list hm]; exact hj
  obtain ⟨bb', cb', lb, c2', ci, Ti, hcs', hlc', hTbb', hTlb', hlbbb, hI, hTilb, hTibb, hTiT, hci, hcil, hfri, ⟨curi, hcuri⟩, hputi⟩ := hF'.ins hmu hju
  rw [upI_get hm hj] at hI
  have hbb : bb = bb' := by
    have h1 := hce' 3 (by omega)
    rw [hcs'] at h1
    have h2 := hsh.fn.symm.trans h1
    simp at h2
    exact h2.1
  subst hbb
  have hlq : lq m = some ⟨lb, 0, none⟩ := by
    have h2 := (hsh.blk m hm).symm.trans hlc'
    simp at h2
    exact h2.1
  obtain ⟨va, rfl, y1, y2, y3, y4, y5, hA⟩ := hI
  obtain ⟨qa, ca, rfl, _⟩ := hA.sl.val
  have hlbz : lb < W.heap.size := (Array.getElem?_eq_some_iff.1 hcuri).1
  have hlg : lb ≠ g := fun e => hgT' (by rw [← e]; exact hTlb')
  refine ⟨lb, qa, ca, hlq, hTS' lb hTlb', hlbz, hfri, hci, hlg, hlbbb, fun hG => ?_, fun n' hn' hG => ?_⟩
  · rw [← upI_same hm hj hG]
    exact h
  · have hne : ∀ b, b ≠ lb → (W.setCell ⟨lb, j * 8 + 6, none⟩ (.int .i64 n')).heap[b]? = W.heap[b]? := fun b hb => Go.Deep.blk_setCell_other W ⟨lb, j * 8 + 6, none⟩ _ b hb
    have hsz : (W.setCell ⟨lb, j * 8 + 6, none⟩ (.int .i64 n')).heap.size = W.heap.size := Go.Deep.nblk_setCell _ _ _
    have hput1 : RowPut W (W.setCell ⟨lb, j * 8 + 6, none⟩ (.int .i64 n')) 53 lb (j * 8) 8 ([.int .i64 f.blocks[m].list[j].op, .int .i64 f.blocks[m].list[j].dst, .bool f.blocks[m].list[j].ar, .int .i64 f.blocks[m].list[j].an, .bool f.blocks[m].list[j].br, .int .i64 f.blocks[m].list[j].bn, .int .i64 f.blocks[m].list[j].fn, .slice qa f.blocks[m].list[j].args.length ca].set 6 (.int .i64 n')) :=
      RowPut.set (RowPut.same hcuri rfl hci) rfl (by omega) _
    have hF2 := hputi _ _ (G ((posL (listLen f) m).length + j) f.blocks[m].list[j]) Ti hput1 rfl (fun v hv => by
        simp only [List.set_cons_succ, List.set_cons_zero, List.mem_cons, List.not_mem_nil, or_false] at hv
        rcases hv with rfl | rfl | rfl | rfl | rfl | rfl | rfl | rfl <;> rfl) (by omega) (fun b hb h1 h2 => hne b h2) (by
        rw [hG]
        exact ⟨_, rfl, y1, y2, y3, y4, hn', hA.loc locVal (fun _ h => h) (fun b hb => hne b (fun e => hTilb (by rw [← e]; exact hb))) (by omega)⟩) (fun b hb => ⟨.inl hb, by have := hA.sl.inb b hb; omega⟩)
    have hF3 := hput' _ cs' _ (fun b => T' b ∨ Ti b) (RowPut.same hcur' (hne _ (fun e => hlg e.symm)) hce') hcl' (fun v hv => by
        rw [hcs'] at hv
        simp only [List.mem_cons, List.not_mem_nil, or_false] at hv
        rcases hv with rfl | rfl | rfl | rfl <;> rfl) (by omega) (fun b hb h1 h2 => hne b (fun e => h1 (by rw [e]; exact hTlb'))) hF2 (fun b hb => by
        have h1 : T' b := hb.elim id (hTiT b)
        exact ⟨.inl h1, by have := h.inb b (hTS' b h1); omega⟩)
    rw [List.set_set, upI_succ hm hj] at hF3
    exact hF3.grow (fun b hb => hb.elim id fun h => h.elim (hTS' b) fun h => hTS' b (hTiT b h)) (fun b hb => by have := h.inb b hb; omega)
end Go.Proofs.YtdjamkinijhjoaaDoor
