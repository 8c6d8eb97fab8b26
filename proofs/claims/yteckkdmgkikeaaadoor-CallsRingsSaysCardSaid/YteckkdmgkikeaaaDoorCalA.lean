/-
  The contracts of turnerysame.Ints, Bools and Rows: are two lists the same?
-/
import Derived.Test.YteckkdmgkikeaaaDoorChkS
import Derived.BigQuiet
import Derived.Deep.QuietTactic
import Derived.Deep.RegionHeld3
import Derived.WalkKit
import Derived.WalkSpells
import Derived.WalkLawsBesides
namespace Go.Proofs.YteckkdmgkikeaaaDoor
open Go.RowKit

/-- a list of numbers behind one cell -/
def IntsR (w : World) (cs : List Value) (xs : List Int) : Prop := ∃ q c, cs = [.slice q xs.length c] ∧ xs.length ≤ 140737488355328 ∧ SliceAt w 1 IntR q xs
def BoolR (cs : List Value) (b : Bool) : Prop := cs = [.bool b]
theorem IntsR.below {w w' : World} {cs : List Value} {xs : List Int} (h : IntsR w cs xs) (hb : Below w.heap.size w w') : IntsR w' cs xs := by
  obtain ⟨q, c, h1, h2, h3⟩ := h
  exact ⟨q, c, h1, h2, h3.mono hb (by omega) fun _ _ h => h⟩
theorem boolGet {w w' : World} {p : Option Addr} {xs : List Bool} (h : SliceAt w 1 BoolR p xs) (hb : Below w.heap.size w w') {i : Nat} (hi : i < xs.length) :
    ∃ b o, p = some ⟨b, o, none⟩ ∧ w'.cell? ⟨b, o + i, none⟩ = some (.bool xs[i]) := by
  rcases h with rfl | ⟨b, o, hp, h⟩
  · simp at hi
  · obtain ⟨cs, _, hc, rfl⟩ := h i hi
    have h0 := hc 0 (by omega)
    simp only [Nat.mul_one, Nat.add_zero, List.getElem?_cons_zero] at h0
    exact ⟨b, o, hp, (hb.cell (p := ⟨b, o + i, none⟩) (lt_of_cell h0)).trans h0⟩
theorem rowGet {w w' : World} {p : Option Addr} {xs : List (List Int)} (h : SliceAt w 1 (IntsR w) p xs) (hb : Below w.heap.size w w') {i : Nat} (hi : i < xs.length) :
    ∃ b o q c, p = some ⟨b, o, none⟩ ∧ w'.cell? ⟨b, o + i, none⟩ = some (.slice q xs[i].length c) ∧ xs[i].length ≤ 140737488355328 ∧ SliceAt w' 1 IntR q xs[i] := by
  rcases h with rfl | ⟨b, o, hp, h⟩
  · simp at hi
  · obtain ⟨cs, _, hc, q, c, rfl, hl, hs⟩ := h i hi
    have h0 := hc 0 (by omega)
    simp only [Nat.mul_one, Nat.add_zero, List.getElem?_cons_zero] at h0
    exact ⟨b, o, q, c, hp, (hb.cell (p := ⟨b, o + i, none⟩) (lt_of_cell h0)).trans h0, hl, hs.mono hb (by omega) fun _ _ h => h⟩

theorem same_no {α : Type} [DecidableEq α] {xs ys : List α} {k : Nat} (h1 : k < xs.length) (h2 : k < ys.length) (h : xs[k] ≠ ys[k]) : decide (xs = ys) = false := by
  rw [decide_eq_false_iff_not]
  rintro rfl
  exact h rfl

set_option maxHeartbeats 1000000 in
theorem ints_any (xs ys : List Int) (p q : Option Addr) (c d : Nat) (w : World) (hx : xs.length ≤ 140737488355328) (hy : ys.length ≤ 140737488355328) (hX : SliceAt w 1 IntR p xs) (hY : SliceAt w 1 IntR q ys) :
    Calls Tryd.prog 31 #[.slice p xs.length c, .slice q ys.length d] w fun e w' => e = .returned (.bool (decide (xs = ys))) ∧ Below w.heap.size w w' := by
  have HX := hidI hX
  have HY := hidI hY
  clear hX hY
  by_cases hl : xs.length = ys.length
  · have hlb : ((xs.length : Int) != ys.length) = false := by simp [hl]
    have hl1 : xs.length ≤ ys.length := by omega
    have hl2 : ys.length ≤ xs.length := by omega
    have HL := hidI hl
    clear hl
    go_enter Tryd.func31, Tryd.ntmps31
    go_wp2
    go_loopw [5] (fun i wr => ∃ k : Nat, k ≤ xs.length ∧ i = .int .i64 k ∧ (∀ j (h1 : j < xs.length) (h2 : j < ys.length), j < k → xs[j] = ys[j]) ∧ Below w.heap.size w wr) (fun i _ => xs.length - (intOf i).toNat)
    case atStart => exact ⟨0, by omega, rfl, fun j _ _ h => by omega, Below.refl _ _⟩
    case round =>
      obtain ⟨k, hk, rfl, hV, hb⟩ := hrel
      have HV := hidI hV
      have HB := hidI hb
      clear hV hb
      by_cases hlt : k < xs.length
      · have hlt2 : k < ys.length := by omega
        obtain ⟨b1, o1, hp, e0, _⟩ := intGet HX.out HB.out hlt
        obtain ⟨b2, o2, hq, f0, _⟩ := intGet HY.out HB.out hlt2
        subst hp hq
        have g1 : (0 : Int) ≤ (k : Int) := by omega
        have g2 : (k : Int) < xs.length := by omega
        have g3 : (k : Int) < ys.length := by omega
        by_cases he : xs[k] = ys[k]
        · have hne : (xs[k] != ys[k]) = false := by simp [he]
          have HE := hidI he
          clear he
          go_wp2
          go_quiet (fail)
          go_wp2
          refine ⟨⟨k + 1, by omega, by go_num, fun j h1 h2 hj => ?_, below_drewN HB.out _⟩, by simp [intOf]; omega⟩
          by_cases hj2 : j < k
          · exact HV.out j h1 h2 hj2
          · obtain rfl : j = k := by omega
            exact HE.out
        · have hne : (xs[k] != ys[k]) = true := by simp [he]
          have HE := hidI (same_no hlt hlt2 he)
          clear he
          go_wp2
          go_quiet (fail)
          go_wp2
          go_ret
          exact ⟨by rw [HE.out]; rfl, below_drewN HB.out _⟩
      · go_wp2
        go_ret
        refine ⟨?_, HB.out⟩
        rw [decide_eq_true (List.ext_getElem HL.out fun j h1 h2 => HV.out j h1 h2 (by omega))]
        rfl
  · have hlb : ((xs.length : Int) != ys.length) = true := by simp; omega
    have HE : Hid (decide (xs = ys) = false) := by
      show _ = _
      rw [decide_eq_false_iff_not]
      rintro rfl
      exact hl rfl
    clear hl
    go_enter Tryd.func31, Tryd.ntmps31
    go_wp2
    go_ret
    exact ⟨by rw [HE.out]; rfl, Below.refl _ _⟩
set_option maxHeartbeats 1000000 in
theorem bools_any (xs ys : List Bool) (p q : Option Addr) (c d : Nat) (w : World) (hx : xs.length ≤ 140737488355328) (hy : ys.length ≤ 140737488355328) (hX : SliceAt w 1 BoolR p xs) (hY : SliceAt w 1 BoolR q ys) :
    Calls Tryd.prog 26 #[.slice p xs.length c, .slice q ys.length d] w fun e w' => e = .returned (.bool (decide (xs = ys))) ∧ Below w.heap.size w w' := by
  have HX := hidI hX
  have HY := hidI hY
  clear hX hY
  by_cases hl : xs.length = ys.length
  · have hlb : ((xs.length : Int) != ys.length) = false := by simp [hl]
    have hl1 : xs.length ≤ ys.length := by omega
    have hl2 : ys.length ≤ xs.length := by omega
    have HL := hidI hl
    clear hl
    go_enter Tryd.func26, Tryd.ntmps26
    go_wp2
    go_loopw [5] (fun i wr => ∃ k : Nat, k ≤ xs.length ∧ i = .int .i64 k ∧ (∀ j (h1 : j < xs.length) (h2 : j < ys.length), j < k → xs[j] = ys[j]) ∧ Below w.heap.size w wr) (fun i _ => xs.length - (intOf i).toNat)
    case atStart => exact ⟨0, by omega, rfl, fun j _ _ h => by omega, Below.refl _ _⟩
    case round =>
      obtain ⟨k, hk, rfl, hV, hb⟩ := hrel
      have HV := hidI hV
      have HB := hidI hb
      clear hV hb
      by_cases hlt : k < xs.length
      · have hlt2 : k < ys.length := by omega
        obtain ⟨b1, o1, hp, e0⟩ := boolGet HX.out HB.out hlt
        obtain ⟨b2, o2, hq, f0⟩ := boolGet HY.out HB.out hlt2
        subst hp hq
        have g1 : (0 : Int) ≤ (k : Int) := by omega
        have g2 : (k : Int) < xs.length := by omega
        have g3 : (k : Int) < ys.length := by omega
        have HXK : Hid (∀ z, xs[k] = z → ∀ v, ys[k] = v → z ≠ v → decide (xs = ys) = false) := fun z hz v hv hn => same_no hlt hlt2 (by rw [hz, hv]; exact hn)
        have HYK : Hid (∀ z, xs[k] = z → ∀ v, ys[k] = v → z = v → xs[k] = ys[k]) := fun z hz v hv hn => by rw [hz, hv]; exact hn
        generalize hxk : xs[k] = x at e0
        generalize hyk : ys[k] = y at f0
        have HA := hidI hxk
        have HC := hidI hyk
        clear hxk hyk
        cases x <;> cases y
        all_goals
          go_wp2
          go_quiet (fail)
          go_wp2
          first
            | (refine ⟨⟨k + 1, by omega, by go_num, fun j h1 h2 hj => ?_, below_drewN HB.out _⟩, by simp [intOf]; omega⟩
               by_cases hj2 : j < k
               · exact HV.out j h1 h2 hj2
               · obtain rfl : j = k := by omega
                 exact HYK.out _ HA.out _ HC.out rfl)
            | (go_ret
               exact ⟨by rw [HXK.out _ HA.out _ HC.out (by decide)]; rfl, below_drewN HB.out _⟩)
      · go_wp2
        go_ret
        refine ⟨?_, HB.out⟩
        rw [decide_eq_true (List.ext_getElem HL.out fun j h1 h2 => HV.out j h1 h2 (by omega))]
        rfl
  · have hlb : ((xs.length : Int) != ys.length) = true := by simp; omega
    have HE : Hid (decide (xs = ys) = false) := by
      show _ = _
      rw [decide_eq_false_iff_not]
      rintro rfl
      exact hl rfl
    clear hl
    go_enter Tryd.func26, Tryd.ntmps26
    go_wp2
    go_ret
    exact ⟨by rw [HE.out]; rfl, Below.refl _ _⟩
set_option maxHeartbeats 1000000 in
theorem rows_any (xs ys : List (List Int)) (p q : Option Addr) (c d : Nat) (w : World) (hx : xs.length ≤ 140737488355328) (hy : ys.length ≤ 140737488355328) (hX : SliceAt w 1 (IntsR w) p xs) (hY : SliceAt w 1 (IntsR w) q ys) :
    Calls Tryd.prog 24 #[.slice p xs.length c, .slice q ys.length d] w fun e w' => e = .returned (.bool (decide (xs = ys))) ∧ Below w.heap.size w w' := by
  have HX := hidI hX
  have HY := hidI hY
  clear hX hY
  by_cases hl : xs.length = ys.length
  · have hlb : ((xs.length : Int) != ys.length) = false := by simp [hl]
    have hl1 : xs.length ≤ ys.length := by omega
    have hl2 : ys.length ≤ xs.length := by omega
    have HL := hidI hl
    clear hl
    go_enter Tryd.func24, Tryd.ntmps24
    go_wp2
    go_loopw [5] (fun i wr => ∃ k : Nat, k ≤ xs.length ∧ i = .int .i64 k ∧ (∀ j (h1 : j < xs.length) (h2 : j < ys.length), j < k → xs[j] = ys[j]) ∧ Below w.heap.size w wr) (fun i _ => xs.length - (intOf i).toNat)
    case atStart => exact ⟨0, by omega, rfl, fun j _ _ h => by omega, Below.refl _ _⟩
    case round =>
      obtain ⟨k, hk, rfl, hV, hb⟩ := hrel
      have HV := hidI hV
      have HB := hidI hb
      clear hV hb
      by_cases hlt : k < xs.length
      · have hlt2 : k < ys.length := by omega
        obtain ⟨b1, o1, q1, c1, hp, e0, l1, s1⟩ := rowGet HX.out HB.out hlt
        obtain ⟨b2, o2, q2, c2, hq, f0, l2, s2⟩ := rowGet HY.out HB.out hlt2
        subst hp hq
        have hz1 := lt_of_cell e0
        have hz2 := lt_of_cell f0
        have HS1 := hidI s1
        have HS2 := hidI s2
        clear s1 s2
        have g1 : (0 : Int) ≤ (k : Int) := by omega
        have g2 : (k : Int) < xs.length := by omega
        have g3 : (k : Int) < ys.length := by omega
        go_wp2
        go_region_held3 (fun w' => w'.cell? ⟨b1, o1 + k, none⟩ = some (.slice q1 xs[k].length c1) ∧ w'.cell? ⟨b2, o2 + k, none⟩ = some (.slice q2 ys[k].length c2)) (go_keep)
          (first | (go_at_call 31; refine (ints_any _ _ _ _ _ _ _ l1 l2 (HS1.out.mono (by repeat (first | with_reducible exact Below.refl _ _ | with_reducible exact HB3.out | with_reducible refine Below.drew ?_ | with_reducible refine below_drewN ?_ _ | with_reducible refine Below.setCell ?_ ?_ _ | with_reducible refine Below.alloc ?_ ?_ _ | with_reducible exact HB2.out | with_reducible exact HB1.out | with_reducible refine Below.trans ?_ (Below.mono hb3 ?_) | with_reducible refine Below.trans ?_ (Below.mono hb5 ?_) | with_reducible refine Below.trans ?_ (Below.mono hb4 ?_) | omega | (simp; omega) | simp)) (by omega) fun _ _ h => h) (HS2.out.mono (by repeat (first | with_reducible exact Below.refl _ _ | with_reducible exact HB3.out | with_reducible refine Below.drew ?_ | with_reducible refine below_drewN ?_ _ | with_reducible refine Below.setCell ?_ ?_ _ | with_reducible refine Below.alloc ?_ ?_ _ | with_reducible exact HB2.out | with_reducible exact HB1.out | with_reducible refine Below.trans ?_ (Below.mono hb3 ?_) | with_reducible refine Below.trans ?_ (Below.mono hb5 ?_) | with_reducible refine Below.trans ?_ (Below.mono hb4 ?_) | omega | (simp; omega) | simp)) (by omega) fun _ _ h => h)).mono ?_; rintro e w2 ⟨rfl, hb2⟩; have hq1 := hb2.cell (p := ⟨b1, o1 + k, none⟩) (by simpa using hz1); have hq2 := hb2.cell (p := ⟨b2, o2 + k, none⟩) (by simpa using hz2)))
        all_goals
          have HN : Hid (Below w.heap.size w w2) := HB.out.trans (Below.trans (by repeat (first | with_reducible exact Below.refl _ _ | with_reducible exact HB3.out | with_reducible refine Below.drew ?_ | with_reducible refine below_drewN ?_ _ | with_reducible refine Below.setCell ?_ ?_ _ | with_reducible refine Below.alloc ?_ ?_ _ | with_reducible exact HB2.out | with_reducible exact HB1.out | with_reducible refine Below.trans ?_ (Below.mono hb3 ?_) | with_reducible refine Below.trans ?_ (Below.mono hb5 ?_) | with_reducible refine Below.trans ?_ (Below.mono hb4 ?_) | omega | (simp; omega) | simp)) (hb2.mono (by simp; exact HB.out.size)))
          cases he : decide (xs[k] = ys[k])
          · have HE := hidI (same_no hlt hlt2 (of_decide_eq_false he))
            go_wp2
            go_ret
            exact ⟨by rw [HE.out]; rfl, HN.out⟩
          · have HE := hidI (of_decide_eq_true he)
            go_wp2
            refine ⟨⟨k + 1, by omega, by go_num, fun j h1 h2 hj => ?_, HN.out⟩, by simp [intOf]; omega⟩
            by_cases hj2 : j < k
            · exact HV.out j h1 h2 hj2
            · obtain rfl : j = k := by omega
              exact HE.out
      · go_wp2
        go_ret
        refine ⟨?_, HB.out⟩
        rw [decide_eq_true (List.ext_getElem HL.out fun j h1 h2 => HV.out j h1 h2 (by omega))]
        rfl
  · have hlb : ((xs.length : Int) != ys.length) = true := by simp; omega
    have HE : Hid (decide (xs = ys) = false) := by
      show _ = _
      rw [decide_eq_false_iff_not]
      rintro rfl
      exact hl rfl
    clear hl
    go_enter Tryd.func24, Tryd.ntmps24
    go_wp2
    go_ret
    exact ⟨by rw [HE.out]; rfl, Below.refl _ _⟩
end Go.Proofs.YteckkdmgkikeaaaDoor
