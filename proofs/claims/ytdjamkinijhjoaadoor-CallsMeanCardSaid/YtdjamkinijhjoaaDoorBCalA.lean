/-
  The contracts of turnerysame.Ints, Bools and Rows: are two lists the same?
Plain: a list of rows of numbers that a call makes: the outer slice and each row own memory of the call's own.
The contracts of calls.Main, turneryref5.MainOf, turneryref5.CallsOne.
The contract of turneryref5.CallsGraph.
Plain: who reaches whom, one more in between at a time; and a table of truths in a world.
-/
import Derived.Test.YtdjamkinijhjoaaDoorChkS
import Derived.BigQuiet
import Derived.Deep.QuietTactic
import Derived.Deep.RegionHeld3
import Derived.WalkKit
import Derived.WalkSpells
import Derived.WalkLawsBesides
import Derived.Maps.AppendAt
import Derived.Deep.OwnRows
namespace Go.Proofs.YtdjamkinijhjoaaDoor
open Go.RowKit

/-- a list of numbers behind one cell -/
def IntsR (w : World) (cs : List Value) (xs : List Int) : Prop := ∃ q c, cs = [.slice q xs.length c] ∧ xs.length ≤ 140737488355328 ∧ SliceAt w 1 IntR q xs
def BoolR (cs : List Value) (b : Bool) : Prop := cs = [.bool b]
theorem IntsR.below {w w' : World} {cs : List Value} {xs : List Int} (h : IntsR w cs xs) (hb : Below w.heap.size w w') : IntsR w' cs xs := by
  obtain ⟨q, c, h1, h2, h3⟩ := h
  exact ⟨q, c, h1, h2, h3.mono hb (by omega) fun _ _ h => h⟩
theorem boolGet {w w' : World} {p : Option Addr} {xs : List Bool} (h : SliceAt w 1 BoolR p xs) (hb : Below w.heap.size w w') {i : Nat} (hi : i < xs.length) :
    ∃ b o, p = some ⟨b, o, none⟩ ∧ w'.cell? ⟨b, o + i, none⟩ = some (.bool xs[i]) := by
  rcases h with rfl | ⟨b, o, hp, h⟩
  · simp at hi
  · obtain ⟨cs, _, hc, rfl⟩ := h i hi
    have h0 := hc 0 (by omega)
    simp only [Nat.mul_one, Nat.add_zero, List.getElem?_cons_zero] at h0
    exact ⟨b, o, hp, (hb.cell (p := ⟨b, o + i, none⟩) (lt_of_cell h0)).trans h0⟩
theorem rowGet {w w' : World} {p : Option Addr} {xs : List (List Int)} (h : SliceAt w 1 (IntsR w) p xs) (hb : Below w.heap.size w w') {i : Nat} (hi : i < xs.length) :
    ∃ b o q c, p = some ⟨b, o, none⟩ ∧ w'.cell? ⟨b, o + i, none⟩ = some (.slice q xs[i].length c) ∧ xs[i].length ≤ 140737488355328 ∧ SliceAt w' 1 IntR q xs[i] := by
  rcases h with rfl | ⟨b, o, hp, h⟩
  · simp at hi
  · obtain ⟨cs, _, hc, q, c, rfl, hl, hs⟩ := h i hi
    have h0 := hc 0 (by omega)
    simp only [Nat.mul_one, Nat.add_zero, List.getElem?_cons_zero] at h0
    exact ⟨b, o, q, c, hp, (hb.cell (p := ⟨b, o + i, none⟩) (lt_of_cell h0)).trans h0, hl, hs.mono hb (by omega) fun _ _ h => h⟩

theorem same_no {α : Type} [DecidableEq α] {xs ys : List α} {k : Nat} (h1 : k < xs.length) (h2 : k < ys.length) (h : xs[k] ≠ ys[k]) : decide (xs = ys) = false := by
  rw [decide_eq_false_iff_not]
  rintro rfl
  exact h rfl

set_option maxHeartbeats 1000000 in
theorem ints_any (xs ys : List Int) (p q : Option Addr) (c d : Nat) (w : World) (hx : xs.length ≤ 140737488355328) (hy : ys.length ≤ 140737488355328) (hX : SliceAt w 1 IntR p xs) (hY : SliceAt w 1 IntR q ys) :
    Calls Tryd.prog 73 #[.slice p xs.length c, .slice q ys.length d] w fun e w' => e = .returned (.bool (decide (xs = ys))) ∧ Below w.heap.size w w' := by
  have HX := hidI hX
  have HY := hidI hY
  clear hX hY
  by_cases hl : xs.length = ys.length
  · have hlb : ((xs.length : Int) != ys.length) = false := by simp [hl]
    have hl1 : xs.length ≤ ys.length := by omega
    have hl2 : ys.length ≤ xs.length := by omega
    have HL := hidI hl
    clear hl
    go_enter Tryd.func73, Tryd.ntmps73
    go_wp2
    go_loopw [5] (fun i wr => ∃ k : Nat, k ≤ xs.length ∧ i = .int .i64 k ∧ (∀ j (h1 : j < xs.length) (h2 : j < ys.length), j < k → xs[j] = ys[j]) ∧ Below w.heap.size w wr) (fun i _ => xs.length - (intOf i).toNat)
    case atStart => exact ⟨0, by omega, rfl, fun j _ _ h => by omega, Below.refl _ _⟩
    case round =>
      obtain ⟨k, hk, rfl, hV, hb⟩ := hrel
      have HV := hidI hV
      have HB := hidI hb
      clear hV hb
      by_cases hlt : k < xs.length
      · have hlt2 : k < ys.length := by omega
        obtain ⟨b1, o1, hp, e0, _⟩ := intGet HX.out HB.out hlt
        obtain ⟨b2, o2, hq, f0, _⟩ := intGet HY.out HB.out hlt2
        subst hp hq
        have g1 : (0 : Int) ≤ (k : Int) := by omega
        have g2 : (k : Int) < xs.length := by omega
        have g3 : (k : Int) < ys.length := by omega
        by_cases he : xs[k] = ys[k]
        · have hne : (xs[k] != ys[k]) = false := by simp [he]
          have HE := hidI he
          clear he
          go_wp2
          go_quiet (fail)
          go_wp2
          refine ⟨⟨k + 1, by omega, by go_num, fun j h1 h2 hj => ?_, below_drewN HB.out _⟩, by simp [intOf]; omega⟩
          by_cases hj2 : j < k
          · exact HV.out j h1 h2 hj2
          · obtain rfl : j = k := by omega
            exact HE.out
        · have hne : (xs[k] != ys[k]) = true := by simp [he]
          have HE := hidI (same_no hlt hlt2 he)
          clear he
          go_wp2
          go_quiet (fail)
          go_wp2
          go_ret
          exact ⟨by rw [HE.out]; rfl, below_drewN HB.out _⟩
      · go_wp2
        go_ret
        refine ⟨?_, HB.out⟩
        rw [decide_eq_true (List.ext_getElem HL.out fun j h1 h2 => HV.out j h1 h2 (by omega))]
        rfl
  · have hlb : ((xs.length : Int) != ys.length) = true := by simp; omega
    have HE : Hid (decide (xs = ys) = false) := by
      show _ = _
      rw [decide_eq_false_iff_not]
      rintro rfl
      exact hl rfl
    clear hl
    go_enter Tryd.func73, Tryd.ntmps73
    go_wp2
    go_ret
    exact ⟨by rw [HE.out]; rfl, Below.refl _ _⟩
end Go.Proofs.YtdjamkinijhjoaaDoor
namespace Go.Proofs.YtdjamkinijhjoaaDoor
open Go.RowKit

theorem addr_add (g i : Nat) : (⟨g, 0, none⟩ : Addr).add i = ⟨g, i, none⟩ := by unfold Addr.add; split <;> simp_all

theorem ownsRow_base {w : World} {B B' : Nat} {e : TypeId} {size : Nat} {v : Value} {n : Nat} {xs : List Value} (h : w.ownsRow B' e size v n xs) (hb : B ≤ B') : w.ownsRow B e size v n xs := by
  refine ⟨h.1, ?_⟩
  rcases h.2 with h2 | ⟨g, cap, cur, h1, h2, h3⟩
  · exact .inl h2
  · exact .inr ⟨g, cap, cur, h1, by omega, h3⟩
theorem own_slice {w : World} {B : Nat} {e : TypeId} {v : Value} {n : Nat} {xs : List Value} (h : w.ownsRow B e 1 v n xs) : ∃ p c, v = .slice p n c := by
  rcases h.2 with ⟨h1, h2⟩ | ⟨g, cap, cur, h1, _⟩
  · exact ⟨none, 0, by rw [h1, h2]⟩
  · exact ⟨_, _, h1⟩
theorem own_cell {w : World} {B : Nat} {e : TypeId} {p : Option Addr} {n c : Nat} {xs : List Value} (h : w.ownsRow B e 1 (.slice p n c) n xs) {i : Nat} (hi : i < n) : ∃ g, p = some ⟨g, 0, none⟩ ∧ B ≤ g ∧ g < w.heap.size ∧ w.cell? ⟨g, i, none⟩ = xs[i]? := by
  have hl : xs.length = n := by simpa using h.1
  rcases h.2 with ⟨h1, h2⟩ | ⟨g, cap, cur, h1, hb, hh, hr⟩
  · omega
  · cases h1
    refine ⟨g, rfl, hb, (Array.getElem?_eq_some_iff.1 hh).1, ?_⟩
    have := h.cells (g := g) rfl i xs[i] (List.getElem?_eq_getElem _)
    rw [addr_add] at this
    rw [this, List.getElem?_eq_getElem]
theorem own_ints {w : World} {B : Nat} {e : TypeId} {v : Value} {n : Nat} {xs : List Int} (hl : xs.length = n) (h : w.ownsRow B e 1 v n (xs.map (.int .i64))) (hI : ∀ x ∈ xs, I64 x) : ∃ p c, v = .slice p xs.length c ∧ SliceAt w 1 IntR p xs := by
  obtain ⟨p, c, rfl⟩ := own_slice h
  refine ⟨p, c, by rw [hl], ?_⟩
  rcases Nat.eq_zero_or_pos n with h0 | h0
  · exact .inl (List.length_eq_zero_iff.1 (hl.trans h0))
  · obtain ⟨g, rfl, _⟩ := own_cell h h0
    refine .inr ⟨g, 0, rfl, fun i hi => ⟨[.int .i64 xs[i]], rfl, fun j hj => ?_, rfl, hI _ (List.getElem_mem hi)⟩⟩
    obtain rfl : j = 0 := by omega
    obtain ⟨g', hg, _, _, hc⟩ := own_cell h (i := i) (by omega)
    cases hg
    simp only [Nat.zero_add, Nat.mul_one, Nat.add_zero]
    rw [hc]
    simp [hi]

/-- rows of numbers, each in its own memory from block B on, and the slice of them -/
structure RowsB (w : World) (B : Nat) (ts ti : TypeId) (v : Value) (rows : List (List Int)) (vals : List Value) : Prop where
  len : vals.length = rows.length
  own : w.ownsRow B ts 1 v rows.length vals
  row : ∀ j (h : j < rows.length), w.ownsRow B ti 1 (vals.getD j (.slice none 0 0)) rows[j].length (rows[j].map (.int .i64))
  two : ∀ j, j < rows.length → (vals.getD j (.slice none 0 0)).ownBlock = none ∨ (vals.getD j (.slice none 0 0)).ownBlock ≠ v.ownBlock

theorem RowsB.nil (w : World) (B : Nat) (ts ti : TypeId) : RowsB w B ts ti (.slice none 0 0) [] [] :=
  ⟨rfl, World.ownsRow_nil _ _ _ _, fun j h => by simp at h, fun j h => by simp at h⟩
theorem ownsRow_below' {w w' : World} {base : Nat} {e : TypeId} {size : Nat} {v : Value} {n : Nat} {xs : List Value} (h : w.ownsRow base e size v n xs) (hb : Below w.heap.size w w') : w'.ownsRow base e size v n xs := by
  refine h.kept (row := none) ⟨hb.os, hb.tape, hb.output, hb.size, fun k hk _ => hb.block k hk⟩ ?_
  cases v.ownBlock with
  | none => exact .inl rfl
  | some k => exact .inr (by simp)
theorem RowsB.below {w w' : World} {B : Nat} {ts ti : TypeId} {v : Value} {rows : List (List Int)} {vals : List Value} (h : RowsB w B ts ti v rows vals) (hb : Below w.heap.size w w') : RowsB w' B ts ti v rows vals :=
  ⟨h.len, ownsRow_below' h.own hb, fun j hj => ownsRow_below' (h.row j hj) hb, h.two⟩
/-- a row more: what append to the outer slice leaves -/
theorem RowsB.snoc {w w' : World} {B : Nat} {ts ti : TypeId} {v v' r : Value} {rows : List (List Int)} {vals : List Value} {row : List Int} (h : RowsB w B ts ti v rows vals) (hr : w.ownsRow B ti 1 r row.length (row.map (.int .i64))) (hd : r.ownBlock = none ∨ r.ownBlock ≠ v.ownBlock)
    (hown : w'.ownsRow B ts 1 v' (rows.length + 1) (vals ++ [r])) (hg : w.grownBy w' v.ownBlock) (hat : v'.ownBlock = v.ownBlock ∨ v'.ownBlock = some w.heap.size) : RowsB w' B ts ti v' (rows ++ [row]) (vals ++ [r]) := by
  have hlow : ∀ k (u : Value) n xs, w.ownsRow B ti 1 u n xs → u.ownBlock = some k → k < w.heap.size := fun k u n xs ho hk => (ho.lt k hk).2
  have key : ∀ (u : Value) n xs, w.ownsRow B ti 1 u n xs → (u.ownBlock = none ∨ u.ownBlock ≠ v.ownBlock) → w'.ownsRow B ti 1 u n xs ∧ (u.ownBlock = none ∨ u.ownBlock ≠ v'.ownBlock) := fun u n xs ho hn => by
    refine ⟨ho.kept hg hn, ?_⟩
    cases hu : u.ownBlock with
    | none => exact .inl rfl
    | some k =>
      right
      rcases hat with e | e
      · rw [e, ← hu]
        rcases hn with hn | hn
        · rw [hu] at hn; cases hn
        · exact hn
      · rw [e]
        intro he
        have := hlow k u n xs ho hu
        injection he with he
        omega
  have gl : ∀ j, j < rows.length → (vals ++ [r]).getD j (.slice none 0 0) = vals.getD j (.slice none 0 0) := fun j hj => by
    simp [List.getD, List.getElem?_append_left (show j < vals.length by rw [h.len]; exact hj)]
  have gr : (vals ++ [r]).getD rows.length (.slice none 0 0) = r := by
    simp [List.getD, ← h.len]
  refine ⟨by simp [h.len], by simpa using hown, fun j hj => ?_, fun j hj => ?_⟩
  · rw [List.length_append, List.length_singleton] at hj
    rcases Nat.lt_or_ge j rows.length with g | g
    · rw [List.getElem_append_left g, gl j g]
      exact (key _ _ _ (h.row j g) (h.two j g)).1
    · obtain rfl : j = rows.length := by omega
      rw [gr]
      have e : (rows ++ [row])[rows.length] = row := by simp
      rw [e]
      exact (key _ _ _ hr hd).1
  · rw [List.length_append, List.length_singleton] at hj
    rcases Nat.lt_or_ge j rows.length with g | g
    · rw [gl j g]
      exact (key _ _ _ (h.row j g) (h.two j g)).2
    · obtain rfl : j = rows.length := by omega
      rw [gr]
      exact (key _ _ _ hr hd).2
theorem RowsB.reads {w : World} {B : Nat} {ts ti : TypeId} {v : Value} {rows : List (List Int)} {vals : List Value} (h : RowsB w B ts ti v rows vals) (hI : ∀ r ∈ rows, r.length ≤ 140737488355328 ∧ ∀ x ∈ r, I64 x) : ∃ p c, v = .slice p rows.length c ∧ SliceAt w 1 (IntsR w) p rows := by
  obtain ⟨p, c, rfl⟩ := own_slice h.own
  refine ⟨p, c, rfl, ?_⟩
  rcases Nat.eq_zero_or_pos rows.length with h0 | h0
  · exact .inl (List.length_eq_zero_iff.1 h0)
  · obtain ⟨g, rfl, _⟩ := own_cell h.own h0
    refine .inr ⟨g, 0, rfl, fun i hi => ?_⟩
    obtain ⟨hl, hx⟩ := hI _ (List.getElem_mem hi)
    obtain ⟨q, d, hq, hs⟩ := own_ints rfl (h.row i hi) hx
    refine ⟨[.slice q rows[i].length d], rfl, fun j hj => ?_, q, d, rfl, hl, hs⟩
    obtain rfl : j = 0 := by omega
    obtain ⟨g', hg, _, _, hc⟩ := own_cell h.own (i := i) hi
    cases hg
    simp only [Nat.zero_add, Nat.mul_one, Nat.add_zero, List.getElem?_cons_zero]
    rw [hc, ← hq, List.getElem?_eq_getElem (by rw [h.len]; exact hi)]
    simp [List.getD, h.len, hi]
end Go.Proofs.YtdjamkinijhjoaaDoor
namespace Go.Proofs.YtdjamkinijhjoaaDoor
open Go.RowKit

set_option maxHeartbeats 1000000 in
theorem isMain2_any (nm : ByteArray) (params regs : Int) (bp : Option Addr) (bl bc : Nat) (w : World) :
    Calls Tryd.prog 79 #[.agg #[.string nm, .int .i64 params, .int .i64 regs, .slice bp bl bc]] w fun e w' => e = .returned (.bool (nm.toList == [109, 97, 105, 110])) ∧ Below w.heap.size w w' := by
  go_enter Tryd.func79, Tryd.ntmps79
  go_wp2
  go_ret
  exact ⟨rfl, by repeat (first | with_reducible exact Below.refl _ _ | with_reducible exact HB3.out | with_reducible refine Below.drew ?_ | with_reducible refine below_drewN ?_ _ | with_reducible refine Below.setCell ?_ ?_ _ | with_reducible refine Below.alloc ?_ ?_ _ | with_reducible exact HB2.out | with_reducible exact HB1.out | with_reducible refine Below.trans ?_ (Below.mono hb3 ?_) | with_reducible refine Below.trans ?_ (Below.mono hb5 ?_) | with_reducible refine Below.trans ?_ (Below.mono hb4 ?_) | omega | (simp; omega) | simp)⟩

set_option maxRecDepth 100000 in
set_option maxHeartbeats 1000000 in
theorem indexMain2_any (xs : List FunL) (fp : Option Addr) (fc : Nat) (w : World) (hl : xs.length ≤ 9223372036854775807) (hF : SliceAt w 4 (FunR w) fp xs) :
    Calls Tryd.prog 37 #[.slice fp xs.length fc, .func (.func 79) #[] #[]] w fun e w' => e = .returned (.int .i64 (optI (mainI xs))) ∧ Below w.heap.size w w' := by
  have HF := hidI hF
  clear hF
  go_enter Tryd.func37, Tryd.ntmps37
  go_wp2
  go_loopw [8] (fun i wr => ∃ k : Nat, k ≤ xs.length ∧ i = .int .i64 k ∧ (∀ j (h : j < xs.length), j < k → mainB xs[j] = false) ∧ Below w.heap.size w wr) (fun i _ => xs.length - (intOf i).toNat)
  case atStart => exact ⟨0, by omega, rfl, fun j _ h => by omega, Below.refl _ _⟩
  case round =>
    obtain ⟨k, hk, rfl, hV, hb⟩ := hrel
    have HV := hidI hV
    have HBw := hidI hb
    clear hV hb
    by_cases hlt : k < xs.length
    · obtain ⟨b, o, q, c, hp, e0, e1, e2, e3, _⟩ := funGet HF.out HBw.out hlt
      subst hp
      go_wp2_with fail
      refine (isMain2_any _ _ _ _ _ _ _).mono ?_
      rintro e w3 ⟨rfl, hb3⟩
      have HB3 := hidI hb3
      have HE : Hid (mainB xs[k] = (xs[k].name.toList == [109, 97, 105, 110])) := rfl
      clear hb3
      cases hm : (xs[k].name.toList == [109, 97, 105, 110])
      · have HM : Hid (mainB xs[k] = false) := HE.out.trans hm
        clear hm
        go_wp2_with fail
        refine ⟨⟨k + 1, by omega, by go_num, fun j hj hjk => ?_, HBw.out.trans (HB3.out.mono HBw.out.size)⟩, by simp [intOf]; omega⟩
        by_cases hj2 : j < k
        · exact HV.out j hj hj2
        · obtain rfl : j = k := by omega
          exact HM.out
      · have HM : Hid (mainB xs[k] = true) := HE.out.trans hm
        clear hm
        go_wp2_with fail
        go_ret
        refine ⟨?_, HBw.out.trans (HB3.out.mono HBw.out.size)⟩
        rw [mainI_hit hlt HV.out HM.out]
        rfl
    · go_wp2_with fail
      go_ret
      refine ⟨?_, HBw.out⟩
      rw [mainI_none (fun j hj => HV.out j hj (by omega))]
      rfl

set_option maxHeartbeats 1000000 in
theorem cmain_any (xs : List FunL) (gp fp : Option Addr) (gl gc fc : Nat) (w : World) (hl : xs.length ≤ 9223372036854775807) (hF : SliceAt w 4 (FunR w) fp xs) :
    Calls Tryd.prog 46 #[.agg #[.slice gp gl gc, .slice fp xs.length fc]] w fun e w' => e = .returned (.int .i64 (optI (mainI xs))) ∧ Below w.heap.size w w' := by
  have HF := hidI hF
  clear hF
  go_enter Tryd.func46, Tryd.ntmps46
  go_wp2_with fail
  refine (indexMain2_any xs _ _ _ hl (funsMono HF.out (by repeat (first | with_reducible exact Below.refl _ _ | with_reducible exact HB3.out | with_reducible refine Below.drew ?_ | with_reducible refine below_drewN ?_ _ | with_reducible refine Below.setCell ?_ ?_ _ | with_reducible refine Below.alloc ?_ ?_ _ | with_reducible exact HB2.out | with_reducible exact HB1.out | with_reducible refine Below.trans ?_ (Below.mono hb3 ?_) | with_reducible refine Below.trans ?_ (Below.mono hb5 ?_) | with_reducible refine Below.trans ?_ (Below.mono hb4 ?_) | omega | (simp; omega) | simp)))).mono ?_
  rintro e w1 ⟨rfl, hb1⟩
  go_wp2_with fail
  go_ret
  exact ⟨rfl, Below.trans (by repeat (first | with_reducible exact Below.refl _ _ | with_reducible exact HB3.out | with_reducible refine Below.drew ?_ | with_reducible refine below_drewN ?_ _ | with_reducible refine Below.setCell ?_ ?_ _ | with_reducible refine Below.alloc ?_ ?_ _ | with_reducible exact HB2.out | with_reducible exact HB1.out | with_reducible refine Below.trans ?_ (Below.mono hb3 ?_) | with_reducible refine Below.trans ?_ (Below.mono hb5 ?_) | with_reducible refine Below.trans ?_ (Below.mono hb4 ?_) | omega | (simp; omega) | simp)) (hb1.mono (by simp))⟩

set_option maxHeartbeats 1000000 in
theorem mainOf_any (xs : List FunL) (gp fp : Option Addr) (gl gc fc : Nat) (w : World) (hl : xs.length ≤ 140737488355328) (hF : SliceAt w 4 (FunR w) fp xs) :
    Calls Tryd.prog 43 #[.agg #[.slice gp gl gc, .slice fp xs.length fc]] w fun e w' => e = .returned (.int .i64 (optI (mainI xs))) ∧ Below w.heap.size w w' := by
  have HF := hidI hF
  clear hF
  go_enter Tryd.func43, Tryd.ntmps43
  go_wp2
  go_loop [3] (fun i => ∃ k : Nat, k ≤ xs.length ∧ i = .int .i64 k ∧ (∀ j (h : j < xs.length), j < k → mainB xs[j] = false)) (fun i => xs.length - (intOf i).toNat)
  case atStart => exact ⟨0, by omega, rfl, fun j _ h => by omega⟩
  case round =>
    obtain ⟨k, hk, rfl, hV⟩ := hrel
    have HV := hidI hV
    clear hV
    by_cases hlt : k < xs.length
    · obtain ⟨b, o, q, c, hp, e0, e1, e2, e3, _⟩ := funGet HF.out (Below.refl _ _) hlt
      subst hp
      have hbb := lt_of_cell e0
      have HE : Hid (mainB xs[k] = (xs[k].name.toList == [109, 97, 105, 110])) := rfl
      cases hm : (xs[k].name.toList == [109, 97, 105, 110])
      · have HM : Hid (mainB xs[k] = false) := HE.out.trans hm
        go_wp2
        refine ⟨⟨k + 1, by omega, by go_num, fun j hj hjk => ?_⟩, by simp [intOf]; omega⟩
        by_cases hj2 : j < k
        · exact HV.out j hj hj2
        · obtain rfl : j = k := by omega
          exact HM.out
      · have HM : Hid (mainB xs[k] = true) := HE.out.trans hm
        go_wp2
        go_ret
        refine ⟨?_, by repeat (first | with_reducible exact Below.refl _ _ | with_reducible exact HB3.out | with_reducible refine Below.drew ?_ | with_reducible refine below_drewN ?_ _ | with_reducible refine Below.setCell ?_ ?_ _ | with_reducible refine Below.alloc ?_ ?_ _ | with_reducible exact HB2.out | with_reducible exact HB1.out | with_reducible refine Below.trans ?_ (Below.mono hb3 ?_) | with_reducible refine Below.trans ?_ (Below.mono hb5 ?_) | with_reducible refine Below.trans ?_ (Below.mono hb4 ?_) | omega | (simp; omega) | simp)⟩
        rw [mainI_hit hlt HV.out HM.out]
        rfl
    · go_wp2
      go_ret
      refine ⟨?_, by repeat (first | with_reducible exact Below.refl _ _ | with_reducible exact HB3.out | with_reducible refine Below.drew ?_ | with_reducible refine below_drewN ?_ _ | with_reducible refine Below.setCell ?_ ?_ _ | with_reducible refine Below.alloc ?_ ?_ _ | with_reducible exact HB2.out | with_reducible exact HB1.out | with_reducible refine Below.trans ?_ (Below.mono hb3 ?_) | with_reducible refine Below.trans ?_ (Below.mono hb5 ?_) | with_reducible refine Below.trans ?_ (Below.mono hb4 ?_) | omega | (simp; omega) | simp)⟩
      rw [mainI_none (fun j hj => HV.out j hj (by omega))]
      rfl

/-- does an instruction call a function? -/
def callB (x : Int) (i : InsL) : Bool := i.op == 20 && i.fn == x
/-- does one function call another one? -/
def callsB (f : FunL) (x : Int) : Bool := f.blocks.any fun b => b.list.any (callB x)

set_option maxRecDepth 100000 in
set_option maxHeartbeats 1000000 in
theorem callsOne_any (xs : List FunL) (gp fp : Option Addr) (gl gc fc k : Nat) (x : Int) (w : World) (hk : k < xs.length) (_hl : xs.length ≤ 140737488355328) (hF : SliceAt w 4 (FunR w) fp xs) :
    Calls Tryd.prog 76 #[.agg #[.slice gp gl gc, .slice fp xs.length fc], .int .i64 k, .int .i64 x] w fun e w' => e = .returned (.bool (callsB xs[k] x)) ∧ Below w.heap.size w w' := by
  obtain ⟨b, o, q, c, hp, e0, e1, e2, e3, _, _, _, hbl, hbs⟩ := funGet hF (Below.refl _ _) hk
  subst hp
  have hbb := lt_of_cell e0
  have HS := hidI hbs
  clear hF hbs
  go_enter Tryd.func76, Tryd.ntmps76
  go_wp2
  go_loop [7] (fun i => ∃ m : Nat, m ≤ xs[k].blocks.length ∧ i = .int .i64 m ∧ (∀ j (h : j < xs[k].blocks.length), j < m → xs[k].blocks[j].list.any (callB x) = false)) (fun i => xs[k].blocks.length - (intOf i).toNat)
  case atStart => exact ⟨0, by omega, rfl, fun j _ h => by omega⟩
  case round =>
    obtain ⟨m, hm, rfl, hV⟩ := hrel
    have HV := hidI hV
    clear hV
    by_cases hlt : m < xs[k].blocks.length
    · obtain ⟨b3, o3, q1, c1, q2, c2, q3, c3, hp, d0, d1, d2, d3, d4, d5, _, _, _, hl2, _, _, hls, _⟩ := blkGet HS.out (Below.refl _ _) hlt
      subst hp
      have hbb3 := lt_of_cell d0
      have HL := hidI hls
      clear hls
      go_wp2
      go_loop [9] (fun i => ∃ n : Nat, n ≤ xs[k].blocks[m].list.length ∧ i = .int .i64 n ∧ (∀ j (h : j < xs[k].blocks[m].list.length), j < n → callB x xs[k].blocks[m].list[j] = false)) (fun i => xs[k].blocks[m].list.length - (intOf i).toNat)
      case atStart => exact ⟨0, by omega, rfl, fun j _ h => by omega⟩
      case round =>
        obtain ⟨n, hn, rfl, hU⟩ := hrel
        have HU := hidI hU
        clear hU
        by_cases hltn : n < xs[k].blocks[m].list.length
        · obtain ⟨b4, o4, q4, c4, hp, f0, f1, f2, f3, f4, f5, f6, f7, _⟩ := insGet HL.out (Below.refl _ _) hltn
          subst hp
          have hbb4 := lt_of_cell f0
          have HE : Hid (callB x xs[k].blocks[m].list[n] = (xs[k].blocks[m].list[n].op == 20 && xs[k].blocks[m].list[n].fn == x)) := rfl
          cases ha : (xs[k].blocks[m].list[n].op == 20)
          · have HM : Hid (callB x xs[k].blocks[m].list[n] = false) := by rw [HE.out, ha]; rfl
            go_wp2
            refine ⟨⟨n + 1, by omega, by go_num, fun j hj hjk => ?_⟩, by simp [intOf]; omega⟩
            by_cases hj2 : j < n
            · exact HU.out j hj hj2
            · obtain rfl : j = n := by omega
              exact HM.out
          · cases hc : (xs[k].blocks[m].list[n].fn == x)
            · have HM : Hid (callB x xs[k].blocks[m].list[n] = false) := by rw [HE.out, ha, hc]; rfl
              go_wp2
              refine ⟨⟨n + 1, by omega, by go_num, fun j hj hjk => ?_⟩, by simp [intOf]; omega⟩
              by_cases hj2 : j < n
              · exact HU.out j hj hj2
              · obtain rfl : j = n := by omega
                exact HM.out
            · have HM : Hid (callsB xs[k] x = true) := by
                show _ = _
                unfold callsB
                rw [List.any_eq_true]
                refine ⟨xs[k].blocks[m], List.getElem_mem hlt, ?_⟩
                rw [List.any_eq_true]
                exact ⟨_, List.getElem_mem hltn, by rw [HE.out, ha, hc]; rfl⟩
              go_wp2
              go_ret
              exact ⟨by rw [HM.out]; rfl, by repeat (first | with_reducible exact Below.refl _ _ | with_reducible exact HB3.out | with_reducible refine Below.drew ?_ | with_reducible refine below_drewN ?_ _ | with_reducible refine Below.setCell ?_ ?_ _ | with_reducible refine Below.alloc ?_ ?_ _ | with_reducible exact HB2.out | with_reducible exact HB1.out | with_reducible refine Below.trans ?_ (Below.mono hb3 ?_) | with_reducible refine Below.trans ?_ (Below.mono hb5 ?_) | with_reducible refine Below.trans ?_ (Below.mono hb4 ?_) | omega | (simp; omega) | simp)⟩
        · go_wp2
          refine ⟨⟨m + 1, by omega, by go_num, fun j hj hjk => ?_⟩, by simp [intOf]; omega⟩
          by_cases hj2 : j < m
          · exact HV.out j hj hj2
          · obtain rfl : j = m := by omega
            rw [List.any_eq_false]
            intro y hy
            obtain ⟨i, hi, rfl⟩ := List.mem_iff_getElem.1 hy
            simp [HU.out i hi (by omega)]
    · have HM : Hid (callsB xs[k] x = false) := by
        show _ = _
        unfold callsB
        rw [List.any_eq_false]
        intro y hy
        obtain ⟨i, hi, rfl⟩ := List.mem_iff_getElem.1 hy
        simp [HV.out i hi (by omega)]
      go_wp2
      go_ret
      exact ⟨by rw [HM.out]; rfl, by repeat (first | with_reducible exact Below.refl _ _ | with_reducible exact HB3.out | with_reducible refine Below.drew ?_ | with_reducible refine below_drewN ?_ _ | with_reducible refine Below.setCell ?_ ?_ _ | with_reducible refine Below.alloc ?_ ?_ _ | with_reducible exact HB2.out | with_reducible exact HB1.out | with_reducible refine Below.trans ?_ (Below.mono hb3 ?_) | with_reducible refine Below.trans ?_ (Below.mono hb5 ?_) | with_reducible refine Below.trans ?_ (Below.mono hb4 ?_) | omega | (simp; omega) | simp)⟩
end Go.Proofs.YtdjamkinijhjoaaDoor
namespace Go.Proofs.YtdjamkinijhjoaaDoor
open Go.RowKit

/-- of the first n functions those that one calls -/
def rowTo (f : FunL) (n : Nat) : List Int := ((List.range n).filter fun x : Nat => callsB f (x : Int)).map fun (x : Nat) => (x : Int)
theorem rowTo_yes {f : FunL} {n : Nat} (h : callsB f (n : Int) = true) : rowTo f (n + 1) = rowTo f n ++ [(n : Int)] := by
  simp [rowTo, List.range_succ, List.filter_append, h]
theorem rowTo_no {f : FunL} {n : Nat} (h : callsB f (n : Int) = false) : rowTo f (n + 1) = rowTo f n := by
  simp [rowTo, List.range_succ, List.filter_append, h]
theorem rowTo_le (f : FunL) (n : Nat) : (rowTo f n).length ≤ n := by
  unfold rowTo
  rw [List.length_map]
  have := List.length_filter_le (fun x : Nat => callsB f (x : Int)) (List.range n)
  rwa [List.length_range] at this
theorem rowTo_mem {f : FunL} {n : Nat} {y : Int} (h : y ∈ rowTo f n) : 0 ≤ y ∧ y < n := by
  unfold rowTo at h
  obtain ⟨x, hx, rfl⟩ := List.mem_map.1 h
  have := List.mem_range.1 (List.mem_filter.1 hx).1
  omega
/-- of each of the first k functions those that it calls, rising -/
def graphTo (xs : List FunL) (k : Nat) : List (List Int) := (xs.take k).map fun f => rowTo f xs.length
theorem graphTo_succ {xs : List FunL} {k : Nat} (hk : k < xs.length) : graphTo xs (k + 1) = graphTo xs k ++ [rowTo xs[k] xs.length] := by
  unfold graphTo
  rw [List.take_succ_eq_append_getElem hk, List.map_append]
  rfl
theorem graphTo_len {xs : List FunL} {k : Nat} (hk : k ≤ xs.length) : (graphTo xs k).length = k := by
  simp [graphTo]; omega

theorem infoRows : (Tryd.prog.info? 46).map (fun i => (i.zero, i.size, i.bytes)) = some (some (.slice none 0 0), 1, 24) := by kernel_rfl
theorem underInts2 : Tryd.prog.underlying 46 = some (.slice 3) := by kernel_rfl
theorem underRows2 : Tryd.prog.underlying 94 = some (.slice 46) := by kernel_rfl
theorem infoInt2 : (Tryd.prog.info? 3).map (fun i => (i.zero, i.size, i.bytes)) = some (some (.int .i64 0), 1, 8) := by kernel_rfl

end Go.Proofs.YtdjamkinijhjoaaDoor
namespace Go.Proofs.YtdjamkinijhjoaaDoor
open Go.RowKit

/-- a table of truths -/
def Tab := Nat → Nat → Bool
def updT (T : Tab) (m k x : Nat) : Tab := fun a b => T a b || (a == k && b == x && T k m && T m x)
def rowUp (T : Tab) (m k : Nat) : Nat → Tab
  | 0 => T
  | x + 1 => updT (rowUp T m k x) m k x
def matUp (n : Nat) (T : Tab) (m : Nat) : Nat → Tab
  | 0 => T
  | k + 1 => rowUp (matUp n T m k) m k n
def fwUp (n : Nat) (T : Tab) : Nat → Tab
  | 0 => T
  | m + 1 => matUp n (fwUp n T m) m n
/-- with whom below m in between -/
def viaT (T : Tab) : Nat → Tab
  | 0 => T
  | m + 1 => fun a b => viaT T m a b || (viaT T m a m && viaT T m m b)

theorem rowUp_eq (T : Tab) (m k : Nat) : ∀ x a b, rowUp T m k x a b = (T a b || (a == k && decide (b < x) && T k m && T m b)) := by
  intro x
  induction x with
  | zero => intro a b; simp [rowUp]
  | succ x ih =>
    intro a b
    have hkm : rowUp T m k x k m = T k m := by
      rw [ih]
      cases T k m <;> simp
    have hmx : rowUp T m k x m x = T m x := by
      rw [ih]
      simp
    show (rowUp T m k x a b || (a == k && b == x && rowUp T m k x k m && rowUp T m k x m x)) = _
    rw [hkm, hmx, ih]
    by_cases hb : b = x
    · subst hb; simp
    · have h1 : (b == x) = false := by simpa using hb
      have h2 : decide (b < x + 1) = decide (b < x) := by
        rw [decide_eq_decide]
        omega
      rw [h1, h2]
      simp
theorem matUp_eq (n : Nat) (T : Tab) (m : Nat) : ∀ k a b, matUp n T m k a b = (T a b || (decide (a < k) && decide (b < n) && T a m && T m b)) := by
  intro k
  induction k with
  | zero => intro a b; simp [matUp]
  | succ k ih =>
    intro a b
    have hrow : ∀ c, matUp n T m k m c = T m c := fun c => by
      rw [ih]
      cases h : T m c <;> simp
    show rowUp (matUp n T m k) m k n a b = _
    rw [rowUp_eq, hrow, ih a b]
    have hkm : matUp n T m k k m = T k m := by rw [ih]; simp
    rw [hkm]
    by_cases ha : a = k
    · subst ha; simp
    · have h1 : (a == k) = false := by simpa using ha
      have h2 : decide (a < k + 1) = decide (a < k) := by
        rw [decide_eq_decide]
        omega
      rw [h1, h2]
      simp
theorem fwUp_eq (n : Nat) (T : Tab) : ∀ m a b, m ≤ n → a < n → b < n → fwUp n T m a b = viaT T m a b := by
  intro m
  induction m with
  | zero => intro a b _ _ _; rfl
  | succ m ih =>
    intro a b hm ha hb
    show matUp n (fwUp n T m) m n a b = (viaT T m a b || (viaT T m a m && viaT T m m b))
    rw [matUp_eq, ih a b (by omega) ha hb, ih a m (by omega) ha (by omega), ih m b (by omega) (by omega) hb]
    simp [ha, hb]
theorem viaT_mono (T : Tab) (m a b : Nat) (h : viaT T m a b = true) : viaT T (m + 1) a b = true := by
  show (viaT T m a b || _) = true
  rw [h]; rfl
theorem viaT_base (T : Tab) (a b : Nat) (h : T a b = true) : ∀ m, viaT T m a b = true
  | 0 => h
  | m + 1 => viaT_mono T m a b (viaT_base T a b h m)
theorem viaT_left (T : Tab) (m a : Nat) (h : viaT T (m + 1) a m = true) : viaT T m a m = true := by
  have h2 : (viaT T m a m || (viaT T m a m && viaT T m m m)) = true := h
  cases h3 : viaT T m a m
  · rw [h3] at h2; simp at h2
  · rfl
theorem viaT_right (T : Tab) (m b : Nat) (h : viaT T (m + 1) m b = true) : viaT T m m b = true := by
  have h2 : (viaT T m m b || (viaT T m m m && viaT T m m b)) = true := h
  cases h3 : viaT T m m b
  · rw [h3] at h2; simp at h2
  · rfl
theorem viaT_both (T : Tab) (m a b : Nat) (h1 : viaT T m a m = true) (h2 : viaT T m m b = true) : viaT T (m + 1) a b = true := by
  show (viaT T m a b || (viaT T m a m && viaT T m m b)) = true
  rw [h1, h2]; simp
theorem viaT_or {T : Tab} {m a b : Nat} (h : viaT T (m + 1) a b = true) : viaT T m a b = true ∨ (viaT T m a m = true ∧ viaT T m m b = true) := by
  have h2 : (viaT T m a b || (viaT T m a m && viaT T m m b)) = true := h
  simpa using h2
theorem viaT_trans (T : Tab) : ∀ m a c b, c < m → viaT T m a c = true → viaT T m c b = true → viaT T m a b = true := by
  intro m
  induction m with
  | zero => intro a c b hc; omega
  | succ m ih =>
    intro a c b hc h1 h2
    by_cases hcm : c = m
    · subst hcm
      exact viaT_both T c a b (viaT_left T c a h1) (viaT_right T c b h2)
    · have hc2 : c < m := by omega
      rcases viaT_or h1 with g1 | ⟨g1, g2⟩ <;> rcases viaT_or h2 with g3 | ⟨g3, g4⟩
      · exact viaT_mono T m a b (ih a c b hc2 g1 g3)
      · exact viaT_both T m a b (ih a c m hc2 g1 g3) g4
      · exact viaT_both T m a b g1 (ih m c b hc2 g2 g3)
      · exact viaT_both T m a b g1 g4

/-- one reaches another one, by steps of E among the numbers below n -/
inductive Path (n : Nat) (E : Nat → Nat → Prop) : Nat → Nat → Prop
  | refl (a : Nat) : Path n E a a
  | step {a b c : Nat} : Path n E a b → E b c → c < n → Path n E a c
theorem Path.trans {n : Nat} {E : Nat → Nat → Prop} {a b c : Nat} (h1 : Path n E a b) (h2 : Path n E b c) : Path n E a c := by
  induction h2 with
  | refl => exact h1
  | step _ e hc ih => exact .step ih e hc
theorem viaT_path {n : Nat} {T : Tab} {E : Nat → Nat → Prop} (hT : ∀ a b, a < n → b < n → T a b = true → Path n E a b) : ∀ m a b, m ≤ n → a < n → b < n → viaT T m a b = true → Path n E a b := by
  intro m
  induction m with
  | zero => intro a b _ ha hb h; exact hT a b ha hb h
  | succ m ih =>
    intro a b hm ha hb h
    rcases viaT_or h with g | ⟨g1, g2⟩
    · exact ih a b (by omega) ha hb g
    · exact (ih a m (by omega) ha (by omega) g1).trans (ih m b (by omega) (by omega) hb g2)
theorem path_viaT {n : Nat} {T : Tab} {E : Nat → Nat → Prop} (hr : ∀ a, a < n → T a a = true) (hE : ∀ a b, a < n → b < n → E a b → T a b = true) {a b : Nat} (ha : a < n) (h : Path n E a b) : b < n ∧ viaT T n a b = true := by
  induction h with
  | refl => exact ⟨ha, viaT_base T _ _ (hr _ ha) n⟩
  | step _ e hc ih => exact ⟨hc, viaT_trans T n _ _ _ ih.1 ih.2 (viaT_base T _ _ (hE _ _ ih.1 hc e) n)⟩
end Go.Proofs.YtdjamkinijhjoaaDoor
