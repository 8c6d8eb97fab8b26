/-
  What came in is read in the middle of a walk: the elements of slices, behind calls that made new memory alone.
-/
import Derived.Test.YteckkdmgkikeaaaDoorDatC
namespace Go.Proofs.YteckkdmgkikeaaaDoor
open Go.RowKit

theorem hidI {p : Prop} (h : p) : Hid p := h

theorem ltHeap {w : World} {b : Nat} {o : Obj} (h : w.heap[b]? = some o) : b < w.heap.size := by
  rcases Nat.lt_or_ge b w.heap.size with g | g
  · exact g
  · rw [Array.getElem?_eq_none g] at h; cases h

theorem SliceAt.mono {α : Type} {w w' : World} {size : Nat} {R R' : List Value → α → Prop} {p : Option Addr} {xs : List α} (h : SliceAt w size R p xs) (hb : Below w.heap.size w w') (_hs : 0 < size) (hR : ∀ cs x, R cs x → R' cs x) : SliceAt w' size R' p xs := by
  rcases h with h | ⟨b, o, hp, h⟩
  · exact .inl h
  · refine .inr ⟨b, o, hp, fun i hi => ?_⟩
    obtain ⟨cs, hl, hc, hr⟩ := h i hi
    refine ⟨cs, hl, fun j hj => ?_, hR _ _ hr⟩
    have hc0 := hc j hj
    rw [List.getElem?_eq_getElem (by omega)] at hc0
    rw [hb.cell (p := ⟨b, o + i * size + j, none⟩) (lt_of_cell hc0), hc j hj]
theorem SlF.mono {α : Type} {w w' : World} {size bytes : Nat} {R R' : List Value → α → Prop} {v : Value} {xs : List α} (h : SlF w size bytes R v xs) (hb : Below w.heap.size w w') (hs : 0 < size) (hR : ∀ cs x, R cs x → R' cs x) : SlF w' size bytes R' v xs := by
  obtain ⟨p, c, h1, h2, h3, h4, h5⟩ := h
  exact ⟨p, c, h1, h2, h3, h4, h5.mono hb hs hR⟩
theorem InsR.below {w w' : World} {cs : List Value} {x : InsL} (h : InsR w cs x) (hb : Below w.heap.size w w') : InsR w' cs x := by
  obtain ⟨v, h0, h1, h2, h3, h4, h5, h6⟩ := h
  exact ⟨v, h0, h1, h2, h3, h4, h5, h6.mono hb (by omega) fun _ _ h => h⟩
theorem PhiR.below {w w' : World} {cs : List Value} {x : PhiL} (h : PhiR w cs x) (hb : Below w.heap.size w w') : PhiR w' cs x := by
  obtain ⟨v, h0, h1, h6⟩ := h
  exact ⟨v, h0, h1, h6.mono hb (by omega) fun _ _ h => h⟩
theorem BlkR.below {w w' : World} {cs : List Value} {x : BlkL} (h : BlkR w cs x) (hb : Below w.heap.size w w') : BlkR w' cs x := by
  obtain ⟨v1, v2, v3, h0, h1, h2, h3, h4, h5⟩ := h
  exact ⟨v1, v2, v3, h0, h1, h2, h3.mono hb (by omega) fun _ _ h => h.below hb, h4.mono hb (by omega) fun _ _ h => h.below hb, h5.mono hb (by omega) fun _ _ h => h⟩
theorem FunR.below {w w' : World} {cs : List Value} {x : FunL} (h : FunR w cs x) (hb : Below w.heap.size w w') : FunR w' cs x := by
  obtain ⟨v, h0, h1, h2, h3, h4⟩ := h
  exact ⟨v, h0, h1, h2, h3, h4.mono hb (by omega) fun _ _ h => h.below hb⟩
theorem GloR.below {w w' : World} {cs : List Value} {x : GloL} (h : GloR w cs x) (hb : Below w.heap.size w w') : GloR w' cs x := by
  obtain ⟨v, h0, h1, h2, h3⟩ := h
  exact ⟨v, h0, h1, h2, h3.mono hb (by omega) fun _ _ h => h⟩

theorem glosMono {w w' : World} {p : Option Addr} {xs : List GloL} (h : SliceAt w 3 (GloR w) p xs) (hb : Below w.heap.size w w') : SliceAt w' 3 (GloR w') p xs := h.mono hb (by omega) fun _ _ h => h.below hb
theorem funsMono {w w' : World} {p : Option Addr} {xs : List FunL} (h : SliceAt w 4 (FunR w) p xs) (hb : Below w.heap.size w w') : SliceAt w' 4 (FunR w') p xs := h.mono hb (by omega) fun _ _ h => h.below hb
theorem blksMono {w w' : World} {p : Option Addr} {xs : List BlkL} (h : SliceAt w 6 (BlkR w) p xs) (hb : Below w.heap.size w w') : SliceAt w' 6 (BlkR w') p xs := h.mono hb (by omega) fun _ _ h => h.below hb
theorem inssMono {w w' : World} {p : Option Addr} {xs : List InsL} (h : SliceAt w 8 (InsR w) p xs) (hb : Below w.heap.size w w') : SliceAt w' 8 (InsR w') p xs := h.mono hb (by omega) fun _ _ h => h.below hb

theorem SlF.out {α : Type} {w : World} {size bytes : Nat} {R : List Value → α → Prop} {v : Value} {xs : List α} (h : SlF w size bytes R v xs) : ∃ p c, v = .slice p xs.length c ∧ xs.length * bytes ≤ 140737488351232 ∧ SliceAt w size R p xs := by
  obtain ⟨p, c, h1, _, h3, h4, h5⟩ := h
  refine ⟨p, c, h1, ?_, h5⟩
  have : xs.length * bytes ≤ c * bytes := Nat.mul_le_mul_right _ h3
  unfold reachBytes at h4
  omega

theorem intGet {w w' : World} {p : Option Addr} {xs : List Int} (h : SliceAt w 1 IntR p xs) (hb : Below w.heap.size w w') {i : Nat} (hi : i < xs.length) :
    ∃ b o, p = some ⟨b, o, none⟩ ∧ w'.cell? ⟨b, o + i, none⟩ = some (.int .i64 xs[i]) ∧ I64 xs[i] := by
  rcases h with rfl | ⟨b, o, hp, h⟩
  · simp at hi
  · obtain ⟨cs, _, hc, ⟨rfl, hw⟩⟩ := h i hi
    have h0 := hc 0 (by omega)
    simp only [Nat.mul_one, Nat.add_zero, List.getElem?_cons_zero] at h0
    exact ⟨b, o, hp, (hb.cell (p := ⟨b, o + i, none⟩) (lt_of_cell h0)).trans h0, hw⟩
theorem valGet {w w' : World} {p : Option Addr} {xs : List (Bool × Int)} (h : SliceAt w 2 ValR p xs) (hb : Below w.heap.size w w') {i : Nat} (hi : i < xs.length) :
    ∃ b o, p = some ⟨b, o, none⟩ ∧ w'.cell? ⟨b, o + i * 2, none⟩ = some (.bool xs[i].1) ∧ w'.cell? ⟨b, o + i * 2 + 1, none⟩ = some (.int .i64 xs[i].2) ∧ I64 xs[i].2 := by
  rcases h with rfl | ⟨b, o, hp, h⟩
  · simp at hi
  · obtain ⟨cs, _, hc, ⟨rfl, hw⟩⟩ := h i hi
    have h0 : w.cell? ⟨b, o + i * 2, none⟩ = some (.bool xs[i].1) := hc 0 (by omega)
    have h1 : w.cell? ⟨b, o + i * 2 + 1, none⟩ = some (.int .i64 xs[i].2) := hc 1 (by omega)
    have hl := lt_of_cell h0
    exact ⟨b, o, hp, (hb.cell (p := ⟨b, _, none⟩) hl).trans h0, (hb.cell (p := ⟨b, _, none⟩) hl).trans h1, hw⟩
theorem phiGet {w w' : World} {p : Option Addr} {xs : List PhiL} (h : SliceAt w 2 (PhiR w) p xs) (hb : Below w.heap.size w w') {i : Nat} (hi : i < xs.length) :
    ∃ b o q c, p = some ⟨b, o, none⟩ ∧ w'.cell? ⟨b, o + i * 2, none⟩ = some (.int .i64 xs[i].dst) ∧ w'.cell? ⟨b, o + i * 2 + 1, none⟩ = some (.slice q xs[i].src.length c) ∧ I64 xs[i].dst ∧ xs[i].src.length * 16 ≤ 140737488351232 ∧ SliceAt w' 2 ValR q xs[i].src := by
  rcases h with rfl | ⟨b, o, hp, h⟩
  · simp at hi
  · obtain ⟨cs, _, hc, hr⟩ := h i hi
    obtain ⟨v, rfl, hw, hs⟩ := hr
    obtain ⟨q, c, rfl, hl2, hs2⟩ := hs.out
    have h0 : w.cell? ⟨b, o + i * 2, none⟩ = some (.int .i64 xs[i].dst) := hc 0 (by omega)
    have h1 : w.cell? ⟨b, o + i * 2 + 1, none⟩ = some (.slice q xs[i].src.length c) := hc 1 (by omega)
    have hl := lt_of_cell h0
    exact ⟨b, o, q, c, hp, (hb.cell (p := ⟨b, _, none⟩) hl).trans h0, (hb.cell (p := ⟨b, _, none⟩) hl).trans h1, hw, hl2, hs2.mono hb (by omega) fun _ _ h => h⟩
theorem insGet {w w' : World} {p : Option Addr} {xs : List InsL} (h : SliceAt w 8 (InsR w) p xs) (hb : Below w.heap.size w w') {i : Nat} (hi : i < xs.length) :
    ∃ b o q c, p = some ⟨b, o, none⟩ ∧ w'.cell? ⟨b, o + i * 8, none⟩ = some (.int .i64 xs[i].op) ∧ w'.cell? ⟨b, o + i * 8 + 1, none⟩ = some (.int .i64 xs[i].dst) ∧ w'.cell? ⟨b, o + i * 8 + 2, none⟩ = some (.bool xs[i].ar) ∧ w'.cell? ⟨b, o + i * 8 + 3, none⟩ = some (.int .i64 xs[i].an) ∧ w'.cell? ⟨b, o + i * 8 + 4, none⟩ = some (.bool xs[i].br) ∧ w'.cell? ⟨b, o + i * 8 + 5, none⟩ = some (.int .i64 xs[i].bn) ∧ w'.cell? ⟨b, o + i * 8 + 6, none⟩ = some (.int .i64 xs[i].fn) ∧ w'.cell? ⟨b, o + i * 8 + 7, none⟩ = some (.slice q xs[i].args.length c) ∧ I64 xs[i].op ∧ I64 xs[i].dst ∧ I64 xs[i].an ∧ I64 xs[i].bn ∧ I64 xs[i].fn ∧ xs[i].args.length * 16 ≤ 140737488351232 ∧ SliceAt w' 2 ValR q xs[i].args := by
  rcases h with rfl | ⟨b, o, hp, h⟩
  · simp at hi
  · obtain ⟨cs, _, hc, hr⟩ := h i hi
    obtain ⟨v, rfl, w1, w2, w3, w4, w5, hs⟩ := hr
    obtain ⟨q, c, rfl, hl2, hs2⟩ := hs.out
    have h0 : w.cell? ⟨b, o + i * 8, none⟩ = some (.int .i64 xs[i].op) := hc 0 (by omega)
    have hl := lt_of_cell h0
    have g : ∀ j, j < 8 → w'.cell? ⟨b, o + i * 8 + j, none⟩ = w.cell? ⟨b, o + i * 8 + j, none⟩ := fun j _ => hb.cell (p := ⟨b, _, none⟩) hl
    exact ⟨b, o, q, c, hp, (g 0 (by omega)).trans h0, (g 1 (by omega)).trans (hc 1 (by omega)), (g 2 (by omega)).trans (hc 2 (by omega)), (g 3 (by omega)).trans (hc 3 (by omega)), (g 4 (by omega)).trans (hc 4 (by omega)), (g 5 (by omega)).trans (hc 5 (by omega)), (g 6 (by omega)).trans (hc 6 (by omega)), (g 7 (by omega)).trans (hc 7 (by omega)), w1, w2, w3, w4, w5, hl2, hs2.mono hb (by omega) fun _ _ h => h⟩
theorem blkGet {w w' : World} {p : Option Addr} {xs : List BlkL} (h : SliceAt w 6 (BlkR w) p xs) (hb : Below w.heap.size w w') {i : Nat} (hi : i < xs.length) :
    ∃ b o q1 c1 q2 c2 q3 c3, p = some ⟨b, o, none⟩ ∧ w'.cell? ⟨b, o + i * 6, none⟩ = some (.slice q1 xs[i].phis.length c1) ∧ w'.cell? ⟨b, o + i * 6 + 1, none⟩ = some (.slice q2 xs[i].list.length c2) ∧ w'.cell? ⟨b, o + i * 6 + 2, none⟩ = some (.int .i64 xs[i].fin.kind) ∧ w'.cell? ⟨b, o + i * 6 + 3, none⟩ = some (.bool xs[i].fin.onr) ∧ w'.cell? ⟨b, o + i * 6 + 4, none⟩ = some (.int .i64 xs[i].fin.onn) ∧ w'.cell? ⟨b, o + i * 6 + 5, none⟩ = some (.slice q3 xs[i].fin.to.length c3) ∧ I64 xs[i].fin.kind ∧ I64 xs[i].fin.onn ∧
      xs[i].phis.length * 32 ≤ 140737488351232 ∧ xs[i].list.length * 80 ≤ 140737488351232 ∧ xs[i].fin.to.length * 8 ≤ 140737488351232 ∧ SliceAt w' 2 (PhiR w') q1 xs[i].phis ∧ SliceAt w' 8 (InsR w') q2 xs[i].list ∧ SliceAt w' 1 IntR q3 xs[i].fin.to := by
  rcases h with rfl | ⟨b, o, hp, h⟩
  · simp at hi
  · obtain ⟨cs, _, hc, hr⟩ := h i hi
    obtain ⟨v1, v2, v3, rfl, w1, w2, hs1, hs2, hs3⟩ := hr
    obtain ⟨q1, c1, rfl, l1, t1⟩ := hs1.out
    obtain ⟨q2, c2, rfl, l2, t2⟩ := hs2.out
    obtain ⟨q3, c3, rfl, l3, t3⟩ := hs3.out
    have h0 : w.cell? ⟨b, o + i * 6, none⟩ = some (.slice q1 xs[i].phis.length c1) := hc 0 (by omega)
    have hl := lt_of_cell h0
    have g : ∀ j, j < 6 → w'.cell? ⟨b, o + i * 6 + j, none⟩ = w.cell? ⟨b, o + i * 6 + j, none⟩ := fun j _ => hb.cell (p := ⟨b, _, none⟩) hl
    exact ⟨b, o, q1, c1, q2, c2, q3, c3, hp, (g 0 (by omega)).trans h0, (g 1 (by omega)).trans (hc 1 (by omega)), (g 2 (by omega)).trans (hc 2 (by omega)), (g 3 (by omega)).trans (hc 3 (by omega)), (g 4 (by omega)).trans (hc 4 (by omega)), (g 5 (by omega)).trans (hc 5 (by omega)), w1, w2, l1, l2, l3, t1.mono hb (by omega) fun _ _ h => h.below hb, t2.mono hb (by omega) fun _ _ h => h.below hb, t3.mono hb (by omega) fun _ _ h => h⟩
theorem funGet {w w' : World} {p : Option Addr} {xs : List FunL} (h : SliceAt w 4 (FunR w) p xs) (hb : Below w.heap.size w w') {i : Nat} (hi : i < xs.length) :
    ∃ b o q c, p = some ⟨b, o, none⟩ ∧ w'.cell? ⟨b, o + i * 4, none⟩ = some (.string xs[i].name) ∧ w'.cell? ⟨b, o + i * 4 + 1, none⟩ = some (.int .i64 xs[i].params) ∧ w'.cell? ⟨b, o + i * 4 + 2, none⟩ = some (.int .i64 xs[i].regs) ∧ w'.cell? ⟨b, o + i * 4 + 3, none⟩ = some (.slice q xs[i].blocks.length c) ∧
      xs[i].name.size ≤ 140737488351232 ∧ I64 xs[i].params ∧ I64 xs[i].regs ∧ xs[i].blocks.length * 96 ≤ 140737488351232 ∧ SliceAt w' 6 (BlkR w') q xs[i].blocks := by
  rcases h with rfl | ⟨b, o, hp, h⟩
  · simp at hi
  · obtain ⟨cs, _, hc, hr⟩ := h i hi
    obtain ⟨v, rfl, w0, w1, w2, hs⟩ := hr
    obtain ⟨q, c, rfl, hl2, hs2⟩ := hs.out
    have h0 : w.cell? ⟨b, o + i * 4, none⟩ = some (.string xs[i].name) := hc 0 (by omega)
    have hl := lt_of_cell h0
    have g : ∀ j, j < 4 → w'.cell? ⟨b, o + i * 4 + j, none⟩ = w.cell? ⟨b, o + i * 4 + j, none⟩ := fun j _ => hb.cell (p := ⟨b, _, none⟩) hl
    exact ⟨b, o, q, c, hp, (g 0 (by omega)).trans h0, (g 1 (by omega)).trans (hc 1 (by omega)), (g 2 (by omega)).trans (hc 2 (by omega)), (g 3 (by omega)).trans (hc 3 (by omega)), by unfold reachBytes at w0; omega, w1, w2, hl2, hs2.mono hb (by omega) fun _ _ h => h.below hb⟩
theorem gloGet {w w' : World} {p : Option Addr} {xs : List GloL} (h : SliceAt w 3 (GloR w) p xs) (hb : Below w.heap.size w w') {i : Nat} (hi : i < xs.length) :
    ∃ b o q c, p = some ⟨b, o, none⟩ ∧ w'.cell? ⟨b, o + i * 3, none⟩ = some (.string xs[i].name) ∧ w'.cell? ⟨b, o + i * 3 + 1, none⟩ = some (.int .i64 xs[i].size) ∧ w'.cell? ⟨b, o + i * 3 + 2, none⟩ = some (.slice q xs[i].init.length c) ∧
      xs[i].name.size ≤ 140737488351232 ∧ I64 xs[i].size ∧ xs[i].init.length * 8 ≤ 140737488351232 ∧ SliceAt w' 1 IntR q xs[i].init := by
  rcases h with rfl | ⟨b, o, hp, h⟩
  · simp at hi
  · obtain ⟨cs, _, hc, hr⟩ := h i hi
    obtain ⟨v, rfl, w0, w1, hs⟩ := hr
    obtain ⟨q, c, rfl, hl2, hs2⟩ := hs.out
    have h0 : w.cell? ⟨b, o + i * 3, none⟩ = some (.string xs[i].name) := hc 0 (by omega)
    have hl := lt_of_cell h0
    have g : ∀ j, j < 3 → w'.cell? ⟨b, o + i * 3 + j, none⟩ = w.cell? ⟨b, o + i * 3 + j, none⟩ := fun j _ => hb.cell (p := ⟨b, _, none⟩) hl
    exact ⟨b, o, q, c, hp, (g 0 (by omega)).trans h0, (g 1 (by omega)).trans (hc 1 (by omega)), (g 2 (by omega)).trans (hc 2 (by omega)), by unfold reachBytes at w0; omega, w1, hl2, hs2.mono hb (by omega) fun _ _ h => h⟩
end Go.Proofs.YteckkdmgkikeaaaDoor
