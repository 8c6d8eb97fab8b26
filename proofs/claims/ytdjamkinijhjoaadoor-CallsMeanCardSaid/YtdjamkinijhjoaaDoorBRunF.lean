/-
  The contract of the walker's ins: memory, calls, reads and prints.
The contract of the walker's ins: reads and prints.
-/
import Derived.Test.YtdjamkinijhjoaaDoorRunE
import Derived.WalkKit
import Derived.WalkSpells
import Derived.WalkLawsBesides
namespace Go.Proofs.YtdjamkinijhjoaaDoor
open Go.RowKit

/-- the cells of the walker -/
theorem WalkR.cells {L : Lies} {u : UniL} {w : World} {ro R : Nat → Nat} {iv ov fv : Value} {s : StL} (h : WalkR L u w ro R iv ov fv s) : (∀ j, w.cell? ⟨L.W, j, none⟩ = (headC L u iv ov fv s)[j]?) ∧ (∀ j, w.frozen? ⟨L.W, j, none⟩ = false) ∧ L.W < w.heap.size :=
  ⟨(blk h.head).1, (blk h.head).2, (Array.getElem?_eq_some_iff.1 h.head).1⟩
theorem WalkR.memV {L : Lies} {u : UniL} {w : World} {ro R : Nat → Nat} {iv ov fv : Value} {s : StL} (h : WalkR L u w ro R iv ov fv s) : ∃ p c, L.mv = .slice p s.mem.length c ∧ w.cell? ⟨L.W, 3, none⟩ = some (.slice p s.mem.length c) ∧
    ∀ j (hj : j < s.mem.length), ∃ M, p = some ⟨M, 0, none⟩ ∧ w.cell? ⟨M, j, none⟩ = some (.int .i64 s.mem[j]) ∧ w.frozen? ⟨M, j, none⟩ = false := by
  obtain ⟨p, c, hp⟩ := own_slice h.memO
  refine ⟨p, c, hp, by rw [← hp]; exact h.cells.1 3, fun j hj => ?_⟩
  have ho := h.memO
  rw [hp] at ho
  obtain ⟨g, rfl, _, _, hc⟩ := own_cell ho hj
  rw [List.getElem?_map, List.getElem?_eq_getElem hj] at hc
  exact ⟨g, rfl, hc, ho.frozenAt j⟩

set_option maxRecDepth 100000 in
set_option maxHeartbeats 4000000 in
/-- a place that is none -/
theorem wins_bad {L : Lies} {u : UniL} {w : World} {s : StL} (h : Walks L u w s) (hok : StOk u s) (hne : s.frames ≠ []) {op dst an bn fn : Int} {ar br : Bool} {args : List (Bool × Int)} (hop : op = 18 ∨ op = 19) (ha : ValOk (topR s).length ar an) (hb : ValOk (topR s).length br bn)
    (hm : ¬(0 ≤ valL (topR s) ar an ∧ valL (topR s) ar an < s.mem.length)) (p : Option Addr) (c : Nat) :
    Calls Tryd.prog 126 #[.pointer (some ⟨L.W, 0, none⟩), .agg #[.int .i64 op, .int .i64 dst, .bool ar, .int .i64 an, .bool br, .int .i64 bn, .int .i64 fn, .slice p args.length c]] w fun e w' => e = .returned (.bool (insS u s ⟨op, dst, ar, an, br, bn, fn, args⟩).2) ∧ Walks L u w' (insS u s ⟨op, dst, ar, an, br, bn, fn, args⟩).1 := by
  have HV := hidI (h.vals hne)
  have HA := hidI ha
  have HBv := hidI hb
  have HW := hidI h
  have hml := hok.mem
  have hi : insS u s ⟨op, dst, ar, an, br, bn, fn, args⟩ = ({ s with state := 3 }, false) := by
    unfold insS
    rw [if_pos hop, if_pos hm]
  have HI := hidI hi
  have hwt : wthn (valL (topR s) ar an) 0 ((s.mem.length : Int) - 1) = false := by unfold wthn; simp only [decide_eq_false_iff_not]; omega
  obtain ⟨ro, R, iv, ov, fv, h⟩ := h
  obtain ⟨mp, mc, _, c3, _⟩ := h.memV
  have zW := h.cells.2.2
  have HWt := hidI hwt
  clear h hok hne ha hb hi hm hwt
  rcases hop with rfl | rfl
  all_goals
    (go_enter Tryd.func126, Tryd.ntmps126; go_wp2_with fail; (go_region_with (first | (go_at_call 141; refine (HV.out _ (by repeat (first | with_reducible exact Below.refl _ _ | with_reducible exact HB3.out | with_reducible refine Below.drew ?_ | with_reducible refine below_drewN ?_ _ | with_reducible refine Below.setCell ?_ ?_ _ | with_reducible refine Below.alloc ?_ ?_ _ | with_reducible exact HB2.out | with_reducible exact HB1.out | with_reducible refine Below.trans ?_ (Below.mono hb3 ?_) | with_reducible refine Below.trans ?_ (Below.mono hb5 ?_) | with_reducible refine Below.trans ?_ (Below.mono hb4 ?_) | omega | (simp; omega) | simp)) _ _ (by first | exact HA.out | exact HBv.out)).mono ?_; rintro e w1 ⟨rfl, hb1⟩; obtain ⟨hc1, hf1, hz1⟩ := bcell hb1; have HB1 : Hid (Below w.heap.size w w1) := Below.trans (by repeat (first | with_reducible exact Below.refl _ _ | with_reducible exact HB3.out | with_reducible refine Below.drew ?_ | with_reducible refine below_drewN ?_ _ | with_reducible refine Below.setCell ?_ ?_ _ | with_reducible refine Below.alloc ?_ ?_ _ | with_reducible exact HB2.out | with_reducible exact HB1.out | with_reducible refine Below.trans ?_ (Below.mono hb3 ?_) | with_reducible refine Below.trans ?_ (Below.mono hb5 ?_) | with_reducible refine Below.trans ?_ (Below.mono hb4 ?_) | omega | (simp; omega) | simp)) (hb1.mono (by first | omega | (simp; done) | (simp; omega))); have hzz := HB1.out.size; (try simp at hz1); have hzb : w.heap.size < w1.heap.size := (by omega); obtain ⟨hc2, hf2, _⟩ := bcell HB1.out))))
  all_goals
    go_wp2_with fail
    refine (within_any _ _ _ _).mono ?_
    rw [HWt.out]
    rintro e w3 ⟨rfl, rfl⟩
    go_wp2_with fail
    refine ((HW.out.mono (by repeat (first | with_reducible exact Below.refl _ _ | with_reducible exact HB3.out | with_reducible refine Below.drew ?_ | with_reducible refine below_drewN ?_ _ | with_reducible refine Below.setCell ?_ ?_ _ | with_reducible refine Below.alloc ?_ ?_ _ | with_reducible exact HB2.out | with_reducible exact HB1.out | with_reducible refine Below.trans ?_ (Below.mono hb3 ?_) | with_reducible refine Below.trans ?_ (Below.mono hb5 ?_) | with_reducible refine Below.trans ?_ (Below.mono hb4 ?_) | omega | (simp; omega) | simp))).stop 3).mono ?_
    rintro e w4 ⟨rfl, h4⟩
    have H4 := hidI h4
    clear h4
    go_wp2_with fail
    go_ret
    exact ⟨by rw [HI.out]; rfl, by rw [HI.out]; exact H4.out⟩
set_option maxRecDepth 100000 in
set_option maxHeartbeats 4000000 in
/-- a word is stored -/
theorem wins_store {L : Lies} {u : UniL} {w : World} {s : StL} (h : Walks L u w s) (hne : s.frames ≠ []) {op dst an bn fn : Int} {ar br : Bool} {args : List (Bool × Int)} (hop : op = 19) (ha : ValOk (topR s).length ar an) (hb : ValOk (topR s).length br bn)
    (hm : 0 ≤ valL (topR s) ar an ∧ valL (topR s) ar an < s.mem.length) (hml : s.mem.length ≤ 200) (p : Option Addr) (c : Nat) :
    Calls Tryd.prog 126 #[.pointer (some ⟨L.W, 0, none⟩), .agg #[.int .i64 op, .int .i64 dst, .bool ar, .int .i64 an, .bool br, .int .i64 bn, .int .i64 fn, .slice p args.length c]] w fun e w' => e = .returned (.bool (insS u s ⟨op, dst, ar, an, br, bn, fn, args⟩).2) ∧ Walks L u w' (insS u s ⟨op, dst, ar, an, br, bn, fn, args⟩).1 := by
  have HV := hidI (h.vals hne)
  have HA := hidI ha
  have HBv := hidI hb
  subst hop
  have hi : insS u s ⟨19, dst, ar, an, br, bn, fn, args⟩ = ({ s with mem := s.mem.set (valL (topR s) ar an).toNat (valL (topR s) br bn) }, true) := by
    unfold insS
    rw [if_pos (.inr rfl), if_neg (fun x => x hm), if_pos rfl]
  have HI := hidI hi
  have hwt : wthn (valL (topR s) ar an) 0 ((s.mem.length : Int) - 1) = true := by unfold wthn; simp only [decide_eq_true_eq]; omega
  obtain ⟨ro, R, iv, ov, fv, h⟩ := h
  obtain ⟨mp, mc, hmv, c3, hmc⟩ := h.memV
  have zW := h.cells.2.2
  obtain ⟨j, hj⟩ := Int.eq_ofNat_of_zero_le hm.1
  have hjl : j < s.mem.length := by omega
  obtain ⟨M, rfl, cm, fm⟩ := hmc j hjl
  have zM := lt_of_cell cm
  have HW := hidI h
  have HMv := hidI hmv
  have HWt := hidI hwt
  have HJ := hidI hj
  have g0 : (0 : Int) ≤ (j : Int) := by omega
  have g1 : (j : Int) < s.mem.length := by omega
  clear h hne ha hb hi hm hwt hmv hmc hj
  (go_enter Tryd.func126, Tryd.ntmps126; go_wp2_with fail; (go_region_with (first | (go_at_call 141; refine (HV.out _ (by repeat (first | with_reducible exact Below.refl _ _ | with_reducible exact HB3.out | with_reducible refine Below.drew ?_ | with_reducible refine below_drewN ?_ _ | with_reducible refine Below.setCell ?_ ?_ _ | with_reducible refine Below.alloc ?_ ?_ _ | with_reducible exact HB2.out | with_reducible exact HB1.out | with_reducible refine Below.trans ?_ (Below.mono hb3 ?_) | with_reducible refine Below.trans ?_ (Below.mono hb5 ?_) | with_reducible refine Below.trans ?_ (Below.mono hb4 ?_) | omega | (simp; omega) | simp)) _ _ (by first | exact HA.out | exact HBv.out)).mono ?_; rintro e w1 ⟨rfl, hb1⟩; obtain ⟨hc1, hf1, hz1⟩ := bcell hb1; have HB1 : Hid (Below w.heap.size w w1) := Below.trans (by repeat (first | with_reducible exact Below.refl _ _ | with_reducible exact HB3.out | with_reducible refine Below.drew ?_ | with_reducible refine below_drewN ?_ _ | with_reducible refine Below.setCell ?_ ?_ _ | with_reducible refine Below.alloc ?_ ?_ _ | with_reducible exact HB2.out | with_reducible exact HB1.out | with_reducible refine Below.trans ?_ (Below.mono hb3 ?_) | with_reducible refine Below.trans ?_ (Below.mono hb5 ?_) | with_reducible refine Below.trans ?_ (Below.mono hb4 ?_) | omega | (simp; omega) | simp)) (hb1.mono (by first | omega | (simp; done) | (simp; omega))); have hzz := HB1.out.size; (try simp at hz1); have hzb : w.heap.size < w1.heap.size := (by omega); obtain ⟨hc2, hf2, _⟩ := bcell HB1.out))))
  all_goals
    rw [HJ.out]
    go_wp2_with fail
    refine (within_any _ _ _ _).mono ?_
    have hwt := HWt.out
    rw [HJ.out] at hwt
    rw [hwt]
    clear hwt
    rintro e w3 ⟨rfl, rfl⟩
    go_wp2_with fail
    go_ret
    refine ⟨by rw [HI.out]; rfl, ?_⟩
    rw [HI.out, HJ.out]
    exact (WalkR.setMem (HW.out.mono (by repeat (first | with_reducible exact Below.refl _ _ | with_reducible exact HB3.out | with_reducible refine Below.drew ?_ | with_reducible refine below_drewN ?_ _ | with_reducible refine Below.setCell ?_ ?_ _ | with_reducible refine Below.alloc ?_ ?_ _ | with_reducible exact HB2.out | with_reducible exact HB1.out | with_reducible refine Below.trans ?_ (Below.mono hb3 ?_) | with_reducible refine Below.trans ?_ (Below.mono hb5 ?_) | with_reducible refine Below.trans ?_ (Below.mono hb4 ?_) | omega | (simp; omega) | simp))) HMv.out j _).walks
set_option maxRecDepth 100000 in
set_option maxHeartbeats 4000000 in
/-- a word is loaded -/
theorem wins_load {L : Lies} {u : UniL} {w : World} {s : StL} (h : Walks L u w s) (hne : s.frames ≠ []) {op dst an bn fn : Int} {ar br : Bool} {args : List (Bool × Int)} (hop : op = 18) (ha : ValOk (topR s).length ar an) (hb : ValOk (topR s).length br bn)
    (hm : 0 ≤ valL (topR s) ar an ∧ valL (topR s) ar an < s.mem.length) (hml : s.mem.length ≤ 200) (hd : dst < (topR s).length ∨ dst < 0) (p : Option Addr) (c : Nat) :
    Calls Tryd.prog 126 #[.pointer (some ⟨L.W, 0, none⟩), .agg #[.int .i64 op, .int .i64 dst, .bool ar, .int .i64 an, .bool br, .int .i64 bn, .int .i64 fn, .slice p args.length c]] w fun e w' => e = .returned (.bool (insS u s ⟨op, dst, ar, an, br, bn, fn, args⟩).2) ∧ Walks L u w' (insS u s ⟨op, dst, ar, an, br, bn, fn, args⟩).1 := by
  have HV := hidI (h.vals hne)
  have HA := hidI ha
  have HBv := hidI hb
  have HD := hidI hd
  have HNE := hidI hne
  have HW := hidI h
  subst hop
  have hi : insS u s ⟨18, dst, ar, an, br, bn, fn, args⟩ = (putS s dst (s.mem.getD (valL (topR s) ar an).toNat 0), true) := by
    unfold insS
    rw [if_pos (.inl rfl), if_neg (fun x => x hm), if_neg (by simp)]
  have hwt : wthn (valL (topR s) ar an) 0 ((s.mem.length : Int) - 1) = true := by unfold wthn; simp only [decide_eq_true_eq]; omega
  obtain ⟨ro, R, iv, ov, fv, h⟩ := h
  obtain ⟨mp, mc, hmv, c3, hmc⟩ := h.memV
  have zW := h.cells.2.2
  obtain ⟨j, hj⟩ := Int.eq_ofNat_of_zero_le hm.1
  have hjl : j < s.mem.length := by omega
  obtain ⟨M, rfl, cm, fm⟩ := hmc j hjl
  have zM := lt_of_cell cm
  have hx : s.mem.getD (valL (topR s) ar an).toNat 0 = s.mem[j] := by rw [hj]; simp [List.getD, hjl]
  rw [hx] at hi
  generalize s.mem[j] = x at *
  have HI := hidI hi
  have HWt := hidI hwt
  have HJ := hidI hj
  have g0 : (0 : Int) ≤ (j : Int) := by omega
  have g1 : (j : Int) < s.mem.length := by omega
  clear h hne ha hb hi hm hwt hmv hmc hj hx hd
  (go_enter Tryd.func126, Tryd.ntmps126; go_wp2_with fail; (go_region_with (first | (go_at_call 141; refine (HV.out _ (by repeat (first | with_reducible exact Below.refl _ _ | with_reducible exact HB3.out | with_reducible refine Below.drew ?_ | with_reducible refine below_drewN ?_ _ | with_reducible refine Below.setCell ?_ ?_ _ | with_reducible refine Below.alloc ?_ ?_ _ | with_reducible exact HB2.out | with_reducible exact HB1.out | with_reducible refine Below.trans ?_ (Below.mono hb3 ?_) | with_reducible refine Below.trans ?_ (Below.mono hb5 ?_) | with_reducible refine Below.trans ?_ (Below.mono hb4 ?_) | omega | (simp; omega) | simp)) _ _ (by first | exact HA.out | exact HBv.out)).mono ?_; rintro e w1 ⟨rfl, hb1⟩; obtain ⟨hc1, hf1, hz1⟩ := bcell hb1; have HB1 : Hid (Below w.heap.size w w1) := Below.trans (by repeat (first | with_reducible exact Below.refl _ _ | with_reducible exact HB3.out | with_reducible refine Below.drew ?_ | with_reducible refine below_drewN ?_ _ | with_reducible refine Below.setCell ?_ ?_ _ | with_reducible refine Below.alloc ?_ ?_ _ | with_reducible exact HB2.out | with_reducible exact HB1.out | with_reducible refine Below.trans ?_ (Below.mono hb3 ?_) | with_reducible refine Below.trans ?_ (Below.mono hb5 ?_) | with_reducible refine Below.trans ?_ (Below.mono hb4 ?_) | omega | (simp; omega) | simp)) (hb1.mono (by first | omega | (simp; done) | (simp; omega))); have hzz := HB1.out.size; (try simp at hz1); have hzb : w.heap.size < w1.heap.size := (by omega); obtain ⟨hc2, hf2, _⟩ := bcell HB1.out))))
  all_goals
    rw [HJ.out]
    go_wp2_with fail
    refine (within_any _ _ _ _).mono ?_
    have hwt := HWt.out
    rw [HJ.out] at hwt
    rw [hwt]
    clear hwt
    rintro e w3 ⟨rfl, rfl⟩
    go_wp2_with fail
    (go_region_with (go_at_call 142; refine ((HW.out.mono (by repeat (first | with_reducible exact Below.refl _ _ | with_reducible exact HB3.out | with_reducible refine Below.drew ?_ | with_reducible refine below_drewN ?_ _ | with_reducible refine Below.setCell ?_ ?_ _ | with_reducible refine Below.alloc ?_ ?_ _ | with_reducible exact HB2.out | with_reducible exact HB1.out | with_reducible refine Below.trans ?_ (Below.mono hb3 ?_) | with_reducible refine Below.trans ?_ (Below.mono hb5 ?_) | with_reducible refine Below.trans ?_ (Below.mono hb4 ?_) | omega | (simp; omega) | simp))).set HNE.out dst x HD.out).mono ?_; rintro e w4 ⟨rfl, h4⟩; have H4 := hidI h4; clear h4))
  all_goals
    go_wp2_with fail
    go_ret
    exact ⟨by rw [HI.out]; rfl, by rw [HI.out]; exact H4.out⟩
end Go.Proofs.YtdjamkinijhjoaaDoor
namespace Go.Proofs.YtdjamkinijhjoaaDoor
open Go.RowKit

theorem WalkR.inpV {L : Lies} {u : UniL} {w : World} {ro R : Nat → Nat} {iv ov fv : Value} {s : StL} (h : WalkR L u w ro R iv ov fv s) : ∃ p c, iv = .slice p s.inp.length c ∧ s.inp.length ≤ c ∧ w.cell? ⟨L.W, 4, none⟩ = some (.slice p s.inp.length c) ∧ (p = none → c = 0) ∧ SliceAt L.w0 1 IntR p s.inp := by
  obtain ⟨p, c, hp, h1, h2, h3⟩ := h.inp
  refine ⟨p, c, hp, h1, ?_, h2, h3⟩
  rw [(blk h.head).1, ← hp]; rfl

set_option maxRecDepth 100000 in
set_option maxHeartbeats 4000000 in
/-- nothing is left to be read -/
theorem wins_read0 {L : Lies} {u : UniL} {w : World} {s : StL} (h : Walks L u w s) (hne : s.frames ≠ []) {op dst an bn fn : Int} {ar br : Bool} {args : List (Bool × Int)} (hop : op = 21) (ha : ValOk (topR s).length ar an) (hb : ValOk (topR s).length br bn)
    (hin : s.inp = []) (hd : dst < (topR s).length ∨ dst < 0) (p : Option Addr) (c : Nat) :
    Calls Tryd.prog 126 #[.pointer (some ⟨L.W, 0, none⟩), .agg #[.int .i64 op, .int .i64 dst, .bool ar, .int .i64 an, .bool br, .int .i64 bn, .int .i64 fn, .slice p args.length c]] w fun e w' => e = .returned (.bool (insS u s ⟨op, dst, ar, an, br, bn, fn, args⟩).2) ∧ Walks L u w' (insS u s ⟨op, dst, ar, an, br, bn, fn, args⟩).1 := by
  have HV := hidI (h.vals hne)
  have HA := hidI ha
  have HBv := hidI hb
  have HD := hidI hd
  have HNE := hidI hne
  have HW := hidI h
  subst hop
  have hi : insS u s ⟨21, dst, ar, an, br, bn, fn, args⟩ = (putS s dst (-1), true) := by
    unfold insS
    rw [if_neg (by simp), if_neg (by simp), if_pos rfl, hin]
  obtain ⟨ro, R, iv, ov, fv, h⟩ := h
  obtain ⟨ip, ic, _, _, c4, _, _⟩ := h.inpV
  have zW := lt_of_cell c4
  rw [hin] at c4
  have HI := hidI hi
  clear h hne ha hb hi hd hin
  (go_enter Tryd.func126, Tryd.ntmps126; go_wp2_with fail; (go_region_with (first | (go_at_call 141; refine (HV.out _ (by repeat (first | with_reducible exact Below.refl _ _ | with_reducible exact HB3.out | with_reducible refine Below.drew ?_ | with_reducible refine below_drewN ?_ _ | with_reducible refine Below.setCell ?_ ?_ _ | with_reducible refine Below.alloc ?_ ?_ _ | with_reducible exact HB2.out | with_reducible exact HB1.out | with_reducible refine Below.trans ?_ (Below.mono hb3 ?_) | with_reducible refine Below.trans ?_ (Below.mono hb5 ?_) | with_reducible refine Below.trans ?_ (Below.mono hb4 ?_) | omega | (simp; omega) | simp)) _ _ (by first | exact HA.out | exact HBv.out)).mono ?_; rintro e w1 ⟨rfl, hb1⟩; obtain ⟨hc1, hf1, hz1⟩ := bcell hb1; have HB1 : Hid (Below w.heap.size w w1) := Below.trans (by repeat (first | with_reducible exact Below.refl _ _ | with_reducible exact HB3.out | with_reducible refine Below.drew ?_ | with_reducible refine below_drewN ?_ _ | with_reducible refine Below.setCell ?_ ?_ _ | with_reducible refine Below.alloc ?_ ?_ _ | with_reducible exact HB2.out | with_reducible exact HB1.out | with_reducible refine Below.trans ?_ (Below.mono hb3 ?_) | with_reducible refine Below.trans ?_ (Below.mono hb5 ?_) | with_reducible refine Below.trans ?_ (Below.mono hb4 ?_) | omega | (simp; omega) | simp)) (hb1.mono (by first | omega | (simp; done) | (simp; omega))); have hzz := HB1.out.size; (try simp at hz1); have hzb : w.heap.size < w1.heap.size := (by omega); obtain ⟨hc2, hf2, _⟩ := bcell HB1.out))))
  all_goals
    go_wp2_with fail
    refine ((HW.out.mono (by repeat (first | with_reducible exact Below.refl _ _ | with_reducible exact HB3.out | with_reducible refine Below.drew ?_ | with_reducible refine below_drewN ?_ _ | with_reducible refine Below.setCell ?_ ?_ _ | with_reducible refine Below.alloc ?_ ?_ _ | with_reducible exact HB2.out | with_reducible exact HB1.out | with_reducible refine Below.trans ?_ (Below.mono hb3 ?_) | with_reducible refine Below.trans ?_ (Below.mono hb5 ?_) | with_reducible refine Below.trans ?_ (Below.mono hb4 ?_) | omega | (simp; omega) | simp))).set HNE.out dst (-1) HD.out).mono ?_
    rintro e w4 ⟨rfl, h4⟩
    have H4 := hidI h4
    clear h4
    go_wp2_with fail
    go_ret
    exact ⟨by rw [HI.out]; rfl, by rw [HI.out]; exact H4.out⟩
set_option maxRecDepth 100000 in
set_option maxHeartbeats 4000000 in
/-- too much is printed -/
theorem wins_much {L : Lies} {u : UniL} {w : World} {s : StL} (h : Walks L u w s) (hne : s.frames ≠ []) {op dst an bn fn : Int} {ar br : Bool} {args : List (Bool × Int)} (hop : op = 22) (ha : ValOk (topR s).length ar an) (hb : ValOk (topR s).length br bn)
    (hout : s.outs.length = 200) (p : Option Addr) (c : Nat) :
    Calls Tryd.prog 126 #[.pointer (some ⟨L.W, 0, none⟩), .agg #[.int .i64 op, .int .i64 dst, .bool ar, .int .i64 an, .bool br, .int .i64 bn, .int .i64 fn, .slice p args.length c]] w fun e w' => e = .returned (.bool (insS u s ⟨op, dst, ar, an, br, bn, fn, args⟩).2) ∧ Walks L u w' (insS u s ⟨op, dst, ar, an, br, bn, fn, args⟩).1 := by
  have HV := hidI (h.vals hne)
  have HA := hidI ha
  have HBv := hidI hb
  have HW := hidI h
  subst hop
  have hi : insS u s ⟨22, dst, ar, an, br, bn, fn, args⟩ = ({ s with state := 5 }, false) := by
    unfold insS
    rw [if_neg (by simp), if_neg (by simp), if_neg (by simp), if_pos rfl, if_pos hout]
  obtain ⟨ro, R, iv, ov, fv, h⟩ := h
  obtain ⟨op, oc, hov⟩ := own_slice h.outO
  have c7 : w.cell? ⟨L.W, 7, none⟩ = some (.slice op s.outs.length oc) := by rw [(blk h.head).1, ← hov]; rfl
  have zW := lt_of_cell c7
  have hq : ((s.outs.length : Int) == 200) = true := by simp; omega
  have HI := hidI hi
  clear h hne ha hb hi hout hov
  (go_enter Tryd.func126, Tryd.ntmps126; go_wp2_with fail; (go_region_with (first | (go_at_call 141; refine (HV.out _ (by repeat (first | with_reducible exact Below.refl _ _ | with_reducible exact HB3.out | with_reducible refine Below.drew ?_ | with_reducible refine below_drewN ?_ _ | with_reducible refine Below.setCell ?_ ?_ _ | with_reducible refine Below.alloc ?_ ?_ _ | with_reducible exact HB2.out | with_reducible exact HB1.out | with_reducible refine Below.trans ?_ (Below.mono hb3 ?_) | with_reducible refine Below.trans ?_ (Below.mono hb5 ?_) | with_reducible refine Below.trans ?_ (Below.mono hb4 ?_) | omega | (simp; omega) | simp)) _ _ (by first | exact HA.out | exact HBv.out)).mono ?_; rintro e w1 ⟨rfl, hb1⟩; obtain ⟨hc1, hf1, hz1⟩ := bcell hb1; have HB1 : Hid (Below w.heap.size w w1) := Below.trans (by repeat (first | with_reducible exact Below.refl _ _ | with_reducible exact HB3.out | with_reducible refine Below.drew ?_ | with_reducible refine below_drewN ?_ _ | with_reducible refine Below.setCell ?_ ?_ _ | with_reducible refine Below.alloc ?_ ?_ _ | with_reducible exact HB2.out | with_reducible exact HB1.out | with_reducible refine Below.trans ?_ (Below.mono hb3 ?_) | with_reducible refine Below.trans ?_ (Below.mono hb5 ?_) | with_reducible refine Below.trans ?_ (Below.mono hb4 ?_) | omega | (simp; omega) | simp)) (hb1.mono (by first | omega | (simp; done) | (simp; omega))); have hzz := HB1.out.size; (try simp at hz1); have hzb : w.heap.size < w1.heap.size := (by omega); obtain ⟨hc2, hf2, _⟩ := bcell HB1.out))))
  all_goals
    go_wp2_with fail
    refine ((HW.out.mono (by repeat (first | with_reducible exact Below.refl _ _ | with_reducible exact HB3.out | with_reducible refine Below.drew ?_ | with_reducible refine below_drewN ?_ _ | with_reducible refine Below.setCell ?_ ?_ _ | with_reducible refine Below.alloc ?_ ?_ _ | with_reducible exact HB2.out | with_reducible exact HB1.out | with_reducible refine Below.trans ?_ (Below.mono hb3 ?_) | with_reducible refine Below.trans ?_ (Below.mono hb5 ?_) | with_reducible refine Below.trans ?_ (Below.mono hb4 ?_) | omega | (simp; omega) | simp))).stop 5).mono ?_
    rintro e w4 ⟨rfl, h4⟩
    have H4 := hidI h4
    clear h4
    go_wp2_with fail
    go_ret
    exact ⟨by rw [HI.out]; rfl, by rw [HI.out]; exact H4.out⟩
end Go.Proofs.YtdjamkinijhjoaaDoor
