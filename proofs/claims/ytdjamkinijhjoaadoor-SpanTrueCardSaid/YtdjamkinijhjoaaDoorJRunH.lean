/-
  The contract of core.Two: what an arithmetic instruction makes of two numbers.
  The contract of the walker's ins.
  The contract of the walker's ins: memory, calls, reads and prints.
  The contract of the walker's ins: calls.
-/
import Derived.WalkKit
import Derived.WalkSpells
import Derived.WalkLawsBesides
import Derived.Test.YtdjamkinijhjoaaDoorJCopB
import Derived.Deep.RegionWith
import Derived.Test.YtdjamkinijhjoaaDoorJRunD
namespace Go.Proofs.YtdjamkinijhjoaaDoor
open Go.RowKit

theorem not_i64 (a : Int) (ha : I64 a) : bits .xor .i64 (-1) a = -1 - a := by
 unfold I64 at ha
 have h : (BitVec.ofInt 64 (-1) ^^^ BitVec.ofInt 64 a) = BitVec.ofInt 64 (-1 - a) := by
  rw [show BitVec.ofInt 64 (-1) = BitVec.allOnes 64 from by decide, BitVec.allOnes_xor]
  apply BitVec.eq_of_toNat_eq
  rw [BitVec.toNat_not]
  simp only [BitVec.toNat_ofInt]
  omega
 show IntKind.i64.wrap ((BitVec.ofInt 64 (-1) ^^^ BitVec.ofInt 64 a).toNat : Nat) = _
 rw [h, IntKind.wrap_i64, BitVec.toNat_ofInt]
 omega

set_option maxHeartbeats 1000000 in
theorem ctwo_any (op a b : Int) (hop : 1 ≤ op ∧ op ≤ 17) (ha : I64 a) (w : World) :
  Calls Tryd.prog 143 #[.int .i64 op, .int .i64 a, .int .i64 b] w fun e w' => e = .returned (.tuple #[.int .i64 (twoL op a b).1, .bool (twoL op a b).2]) ∧ w = w' := by
 have h63 := i64_and63 b
 have h64 : (b % 64 < 0) = False := by simp; omega
 have hshl := shift_shl .i64 .i64 a (b % 64) (by omega) (by show b % 64 ≤ ((64 : Nat) : Int); omega)
 have hshr := shift_shr .i64 .i64 a (b % 64) (by omega) (by show b % 64 ≤ ((64 : Nat) : Int); omega)
 have hwr : ∀ n, IntKind.i64.wrap n = wrap64 n := IntWalk.i64_left
 have hnot := not_i64 a ha
 have hsg : IntKind.i64.signed = true := rfl
 clear ha
 have hops : op = 1 ∨ op = 2 ∨ op = 3 ∨ op = 4 ∨ op = 7 ∨ op = 8 ∨ op = 9 ∨ op = 10 ∨ op = 11 ∨ op = 12 ∨ op = 13 ∨ op = 14 ∨ op = 15 ∨ op = 16 ∨ op = 17 ∨ op = 5 ∨ op = 6 := by omega
 clear hop
 rcases hops with rfl | rfl | rfl | rfl | rfl | rfl | rfl | rfl | rfl | rfl | rfl | rfl | rfl | rfl | rfl | h56
 case inr.inr.inr.inr.inr.inr.inr.inr.inr.inr.inr.inr.inr.inr.inr =>
  by_cases hb : b = 0
  ·subst hb
   rcases h56 with rfl | rfl
   all_goals
    go_enter Tryd.func143, Tryd.ntmps143
    go_wp2
    go_ret2
    exact ⟨by simp [twoL], rfl⟩
  ·have hb2 : (b == 0) = false := by simpa using hb
   rcases h56 with rfl | rfl
   all_goals
    go_enter Tryd.func143, Tryd.ntmps143
    go_wp2
    go_ret2
    exact ⟨by simp [twoL, *], rfl⟩
 all_goals
  go_enter Tryd.func143, Tryd.ntmps143
  go_wp2_with (first | (go_at_call 156; refine (yes_any _ _).mono ?_; rintro e w' ⟨rfl, rfl⟩))
 all_goals go_ret2
 all_goals exact ⟨by simp [twoL, *], rfl⟩

end Go.Proofs.YtdjamkinijhjoaaDoor
namespace Go.Proofs.YtdjamkinijhjoaaDoor
open Go.RowKit

theorem Walks.vals {L : Lies} {u : UniL} {w : World} {s : StL} (h : Walks L u w s) (hne : s.frames ≠ []) : ∀ W, Below w.heap.size w W → ∀ r n, ValOk (topR s).length r n → Calls Tryd.prog 141 #[.pointer (some ⟨L.W, 0, none⟩), .agg #[.bool r, .int .i64 n]] W fun e w' => e = .returned (.int .i64 (valL (topR s) r n)) ∧ Below W.heap.size W w' :=
 fun _ hb r n hv => (h.mono hb).val hne r n hv

set_option maxRecDepth 100000 in
set_option maxHeartbeats 2000000 in
theorem wins_two {L : Lies} {u : UniL} {w : World} {s : StL} (h : Walks L u w s) (hok : StOk u s) (hne : s.frames ≠ []) {op dst an bn fn : Int} {ar br : Bool} {args : List (Bool × Int)} (hop : 1 ≤ op ∧ op ≤ 17) (ha : ValOk (topR s).length ar an) (hb : ValOk (topR s).length br bn) (hai : I64 an)
  (hd : dst < (topR s).length ∨ dst < 0) (p : Option Addr) (c : Nat) :
  Calls Tryd.prog 126 #[.pointer (some ⟨L.W, 0, none⟩), .agg #[.int .i64 op, .int .i64 dst, .bool ar, .int .i64 an, .bool br, .int .i64 bn, .int .i64 fn, .slice p args.length c]] w fun e w' => e = .returned (.bool (insS u s ⟨op, dst, ar, an, br, bn, fn, args⟩).2) ∧ Walks L u w' (insS u s ⟨op, dst, ar, an, br, bn, fn, args⟩).1 := by
 have HV := hidI (h.vals hne)
 have HA := hidI ha
 have HBv := hidI hb
 have HAi : Hid (I64 (valL (topR s) ar an)) := valL_i64 (topR_i64 hok.frs) hai
 have HW := hidI h
 have HD := hidI hd
 have HNE := hidI hne
 have q18 : (op == 18) = false := by simp; omega
 have q19 : (op == 19) = false := by simp; omega
 have q20 : (op == 20) = false := by simp; omega
 have q21 : (op == 21) = false := by simp; omega
 have q22 : (op == 22) = false := by simp; omega
 have hi : insS u s ⟨op, dst, ar, an, br, bn, fn, args⟩ = if (twoL op (valL (topR s) ar an) (valL (topR s) br bn)).2 = false then ({ s with state := 2 }, false) else (putS s dst (twoL op (valL (topR s) ar an) (valL (topR s) br bn)).1, true) := by
  unfold insS
  rw [if_neg (by simp only; omega), if_neg (by simp only; omega), if_neg (by simp only; omega), if_neg (by simp only; omega)]
 have HI := hidI hi
 clear h hok hne ha hb hai hd hi
 generalize hta : twoL op (valL (topR s) ar an) (valL (topR s) br bn) = tt at HI
 obtain ⟨n, ok⟩ := tt
 have HTa := hidI hta
 clear hta
 cases ok
 ·(go_enter Tryd.func126, Tryd.ntmps126; go_wp2_with fail; (go_region_with (first | (go_at_call 141; refine (HV.out _ (by repeat (first | (with_reducible first | exact bR _ _ | exact bH ‹_› | refine bD ?_ | refine bN ?_ _ | refine bS ?_ ?_ _ | refine bA ?_ ?_ _ | refine bT hb3 ?_ ?_ | refine bT hb5 ?_ ?_ | refine bT hb4 ?_ ?_) | omega | (simp; omega) | simp)) _ _ (by first | exact HA.out | exact HBv.out)).mono ?_; rintro e w1 ⟨rfl, hb1⟩; obtain ⟨hc1, hf1, hz1⟩ := bcell hb1; have HB1 : Hid (Below w.heap.size w w1) := Below.trans (by repeat (first | (with_reducible first | exact bR _ _ | exact bH ‹_› | refine bD ?_ | refine bN ?_ _ | refine bS ?_ ?_ _ | refine bA ?_ ?_ _ | refine bT hb3 ?_ ?_ | refine bT hb5 ?_ ?_ | refine bT hb4 ?_ ?_) | omega | (simp; omega) | simp)) (hb1.mono (by first | omega | (simp; done) | (simp; omega))); have hzz := HB1.out.size; (try simp at hz1); have hzb : w.heap.size < w1.heap.size := (by omega); obtain ⟨hc2, hf2, _⟩ := bcell HB1.out))))
  all_goals
   go_wp2_with fail
   refine (ctwo_any _ _ _ hop HAi.out _).mono ?_
   rw [HTa.out]
   rintro e w3 ⟨rfl, rfl⟩
   go_wp2_with fail
   refine ((HW.out.mono (by repeat (first | (with_reducible first | exact bR _ _ | exact bH ‹_› | refine bD ?_ | refine bN ?_ _ | refine bS ?_ ?_ _ | refine bA ?_ ?_ _ | refine bT hb3 ?_ ?_ | refine bT hb5 ?_ ?_ | refine bT hb4 ?_ ?_) | omega | (simp; omega) | simp))).stop 2).mono ?_
   rintro e w4 ⟨rfl, h4⟩
   have H4 := hidI h4
   clear h4
   go_wp2_with fail
   go_ret
   exact ⟨by rw [HI.out]; rfl, by rw [HI.out]; exact H4.out⟩
 ·(go_enter Tryd.func126, Tryd.ntmps126; go_wp2_with fail; (go_region_with (first | (go_at_call 141; refine (HV.out _ (by repeat (first | (with_reducible first | exact bR _ _ | exact bH ‹_› | refine bD ?_ | refine bN ?_ _ | refine bS ?_ ?_ _ | refine bA ?_ ?_ _ | refine bT hb3 ?_ ?_ | refine bT hb5 ?_ ?_ | refine bT hb4 ?_ ?_) | omega | (simp; omega) | simp)) _ _ (by first | exact HA.out | exact HBv.out)).mono ?_; rintro e w1 ⟨rfl, hb1⟩; obtain ⟨hc1, hf1, hz1⟩ := bcell hb1; have HB1 : Hid (Below w.heap.size w w1) := Below.trans (by repeat (first | (with_reducible first | exact bR _ _ | exact bH ‹_› | refine bD ?_ | refine bN ?_ _ | refine bS ?_ ?_ _ | refine bA ?_ ?_ _ | refine bT hb3 ?_ ?_ | refine bT hb5 ?_ ?_ | refine bT hb4 ?_ ?_) | omega | (simp; omega) | simp)) (hb1.mono (by first | omega | (simp; done) | (simp; omega))); have hzz := HB1.out.size; (try simp at hz1); have hzb : w.heap.size < w1.heap.size := (by omega); obtain ⟨hc2, hf2, _⟩ := bcell HB1.out))))
  all_goals
   go_wp2_with fail
   refine (ctwo_any _ _ _ hop HAi.out _).mono ?_
   rw [HTa.out]
   rintro e w3 ⟨rfl, rfl⟩
   go_wp2_with fail
   refine ((HW.out.mono (by repeat (first | (with_reducible first | exact bR _ _ | exact bH ‹_› | refine bD ?_ | refine bN ?_ _ | refine bS ?_ ?_ _ | refine bA ?_ ?_ _ | refine bT hb3 ?_ ?_ | refine bT hb5 ?_ ?_ | refine bT hb4 ?_ ?_) | omega | (simp; omega) | simp))).set HNE.out dst n HD.out).mono ?_
   rintro e w4 ⟨rfl, h4⟩
   have H4 := hidI h4
   clear h4
   go_wp2_with fail
   go_ret
   exact ⟨by rw [HI.out]; rfl, by rw [HI.out]; exact H4.out⟩
end Go.Proofs.YtdjamkinijhjoaaDoor
namespace Go.Proofs.YtdjamkinijhjoaaDoor
open Go.RowKit

theorem WalkR.cells {L : Lies} {u : UniL} {w : World} {ro R : Nat → Nat} {iv ov fv : Value} {s : StL} (h : WalkR L u w ro R iv ov fv s) : (∀ j, w.cell? ⟨L.W, j, none⟩ = (headC L u iv ov fv s)[j]?) ∧ (∀ j, w.frozen? ⟨L.W, j, none⟩ = false) ∧ L.W < w.heap.size :=
 ⟨(blk h.head).1, (blk h.head).2, (Array.getElem?_eq_some_iff.1 h.head).1⟩
theorem WalkR.memV {L : Lies} {u : UniL} {w : World} {ro R : Nat → Nat} {iv ov fv : Value} {s : StL} (h : WalkR L u w ro R iv ov fv s) : ∃ p c, L.mv = .slice p s.mem.length c ∧ w.cell? ⟨L.W, 3, none⟩ = some (.slice p s.mem.length c) ∧
  ∀ j (hj : j < s.mem.length), ∃ M, p = some ⟨M, 0, none⟩ ∧ w.cell? ⟨M, j, none⟩ = some (.int .i64 s.mem[j]) ∧ w.frozen? ⟨M, j, none⟩ = false := by
 obtain ⟨p, c, hp⟩ := own_slice h.memO
 refine ⟨p, c, hp, by rw [← hp]; exact h.cells.1 3, fun j hj => ?_⟩
 have ho := h.memO
 rw [hp] at ho
 obtain ⟨g, rfl, _, _, hc⟩ := own_cell ho hj
 rw [List.getElem?_map, List.getElem?_eq_getElem hj] at hc
 exact ⟨g, rfl, hc, ho.frozenAt j⟩

set_option maxRecDepth 100000 in
set_option maxHeartbeats 4000000 in
theorem wins_bad {L : Lies} {u : UniL} {w : World} {s : StL} (h : Walks L u w s) (hok : StOk u s) (hne : s.frames ≠ []) {op dst an bn fn : Int} {ar br : Bool} {args : List (Bool × Int)} (hop : op = 18 ∨ op = 19) (ha : ValOk (topR s).length ar an) (hb : ValOk (topR s).length br bn)
  (hm : ¬(0 ≤ valL (topR s) ar an ∧ valL (topR s) ar an < s.mem.length)) (p : Option Addr) (c : Nat) :
  Calls Tryd.prog 126 #[.pointer (some ⟨L.W, 0, none⟩), .agg #[.int .i64 op, .int .i64 dst, .bool ar, .int .i64 an, .bool br, .int .i64 bn, .int .i64 fn, .slice p args.length c]] w fun e w' => e = .returned (.bool (insS u s ⟨op, dst, ar, an, br, bn, fn, args⟩).2) ∧ Walks L u w' (insS u s ⟨op, dst, ar, an, br, bn, fn, args⟩).1 := by
 have HV := hidI (h.vals hne)
 have HA := hidI ha
 have HBv := hidI hb
 have HW := hidI h
 have hml := hok.mem
 have hi : insS u s ⟨op, dst, ar, an, br, bn, fn, args⟩ = ({ s with state := 3 }, false) := by
  unfold insS
  rw [if_pos hop, if_pos hm]
 have HI := hidI hi
 have hwt : wthn (valL (topR s) ar an) 0 ((s.mem.length : Int) - 1) = false := by unfold wthn; simp only [decide_eq_false_iff_not]; omega
 obtain ⟨ro, R, iv, ov, fv, h⟩ := h
 obtain ⟨mp, mc, _, c3, _⟩ := h.memV
 have zW := h.cells.2.2
 have HWt := hidI hwt
 clear h hok hne ha hb hi hm hwt
 rcases hop with rfl | rfl
 all_goals
  (go_enter Tryd.func126, Tryd.ntmps126; go_wp2_with fail; (go_region_with (first | (go_at_call 141; refine (HV.out _ (by repeat (first | (with_reducible first | exact bR _ _ | exact bH ‹_› | refine bD ?_ | refine bN ?_ _ | refine bS ?_ ?_ _ | refine bA ?_ ?_ _ | refine bT hb3 ?_ ?_ | refine bT hb5 ?_ ?_ | refine bT hb4 ?_ ?_) | omega | (simp; omega) | simp)) _ _ (by first | exact HA.out | exact HBv.out)).mono ?_; rintro e w1 ⟨rfl, hb1⟩; obtain ⟨hc1, hf1, hz1⟩ := bcell hb1; have HB1 : Hid (Below w.heap.size w w1) := Below.trans (by repeat (first | (with_reducible first | exact bR _ _ | exact bH ‹_› | refine bD ?_ | refine bN ?_ _ | refine bS ?_ ?_ _ | refine bA ?_ ?_ _ | refine bT hb3 ?_ ?_ | refine bT hb5 ?_ ?_ | refine bT hb4 ?_ ?_) | omega | (simp; omega) | simp)) (hb1.mono (by first | omega | (simp; done) | (simp; omega))); have hzz := HB1.out.size; (try simp at hz1); have hzb : w.heap.size < w1.heap.size := (by omega); obtain ⟨hc2, hf2, _⟩ := bcell HB1.out))))
 all_goals
  go_wp2_with fail
  refine (within_any _ _ _ _).mono ?_
  rw [HWt.out]
  rintro e w3 ⟨rfl, rfl⟩
  go_wp2_with fail
  refine ((HW.out.mono (by repeat (first | (with_reducible first | exact bR _ _ | exact bH ‹_› | refine bD ?_ | refine bN ?_ _ | refine bS ?_ ?_ _ | refine bA ?_ ?_ _ | refine bT hb3 ?_ ?_ | refine bT hb5 ?_ ?_ | refine bT hb4 ?_ ?_) | omega | (simp; omega) | simp))).stop 3).mono ?_
  rintro e w4 ⟨rfl, h4⟩
  have H4 := hidI h4
  clear h4
  go_wp2_with fail
  go_ret
  exact ⟨by rw [HI.out]; rfl, by rw [HI.out]; exact H4.out⟩
set_option maxRecDepth 100000 in
set_option maxHeartbeats 4000000 in
theorem wins_store {L : Lies} {u : UniL} {w : World} {s : StL} (h : Walks L u w s) (hne : s.frames ≠ []) {op dst an bn fn : Int} {ar br : Bool} {args : List (Bool × Int)} (hop : op = 19) (ha : ValOk (topR s).length ar an) (hb : ValOk (topR s).length br bn)
  (hm : 0 ≤ valL (topR s) ar an ∧ valL (topR s) ar an < s.mem.length) (hml : s.mem.length ≤ 200) (p : Option Addr) (c : Nat) :
  Calls Tryd.prog 126 #[.pointer (some ⟨L.W, 0, none⟩), .agg #[.int .i64 op, .int .i64 dst, .bool ar, .int .i64 an, .bool br, .int .i64 bn, .int .i64 fn, .slice p args.length c]] w fun e w' => e = .returned (.bool (insS u s ⟨op, dst, ar, an, br, bn, fn, args⟩).2) ∧ Walks L u w' (insS u s ⟨op, dst, ar, an, br, bn, fn, args⟩).1 := by
 have HV := hidI (h.vals hne)
 have HA := hidI ha
 have HBv := hidI hb
 subst hop
 have hi : insS u s ⟨19, dst, ar, an, br, bn, fn, args⟩ = ({ s with mem := s.mem.set (valL (topR s) ar an).toNat (valL (topR s) br bn) }, true) := by
  unfold insS
  rw [if_pos (.inr rfl), if_neg (fun x => x hm), if_pos rfl]
 have HI := hidI hi
 have hwt : wthn (valL (topR s) ar an) 0 ((s.mem.length : Int) - 1) = true := by unfold wthn; simp only [decide_eq_true_eq]; omega
 obtain ⟨ro, R, iv, ov, fv, h⟩ := h
 obtain ⟨mp, mc, hmv, c3, hmc⟩ := h.memV
 have zW := h.cells.2.2
 obtain ⟨j, hj⟩ := Int.eq_ofNat_of_zero_le hm.1
 have hjl : j < s.mem.length := by omega
 obtain ⟨M, rfl, cm, fm⟩ := hmc j hjl
 have zM := lt_of_cell cm
 have HW := hidI h
 have HMv := hidI hmv
 have HWt := hidI hwt
 have HJ := hidI hj
 have g0 : (0 : Int) ≤ (j : Int) := by omega
 have g1 : (j : Int) < s.mem.length := by omega
 clear h hne ha hb hi hm hwt hmv hmc hj
 (go_enter Tryd.func126, Tryd.ntmps126; go_wp2_with fail; (go_region_with (first | (go_at_call 141; refine (HV.out _ (by repeat (first | (with_reducible first | exact bR _ _ | exact bH ‹_› | refine bD ?_ | refine bN ?_ _ | refine bS ?_ ?_ _ | refine bA ?_ ?_ _ | refine bT hb3 ?_ ?_ | refine bT hb5 ?_ ?_ | refine bT hb4 ?_ ?_) | omega | (simp; omega) | simp)) _ _ (by first | exact HA.out | exact HBv.out)).mono ?_; rintro e w1 ⟨rfl, hb1⟩; obtain ⟨hc1, hf1, hz1⟩ := bcell hb1; have HB1 : Hid (Below w.heap.size w w1) := Below.trans (by repeat (first | (with_reducible first | exact bR _ _ | exact bH ‹_› | refine bD ?_ | refine bN ?_ _ | refine bS ?_ ?_ _ | refine bA ?_ ?_ _ | refine bT hb3 ?_ ?_ | refine bT hb5 ?_ ?_ | refine bT hb4 ?_ ?_) | omega | (simp; omega) | simp)) (hb1.mono (by first | omega | (simp; done) | (simp; omega))); have hzz := HB1.out.size; (try simp at hz1); have hzb : w.heap.size < w1.heap.size := (by omega); obtain ⟨hc2, hf2, _⟩ := bcell HB1.out))))
 all_goals
  rw [HJ.out]
  go_wp2_with fail
  refine (within_any _ _ _ _).mono ?_
  have hwt := HWt.out
  rw [HJ.out] at hwt
  rw [hwt]
  clear hwt
  rintro e w3 ⟨rfl, rfl⟩
  go_wp2_with fail
  go_ret
  refine ⟨by rw [HI.out]; rfl, ?_⟩
  rw [HI.out, HJ.out]
  exact (WalkR.setMem (HW.out.mono (by repeat (first | (with_reducible first | exact bR _ _ | exact bH ‹_› | refine bD ?_ | refine bN ?_ _ | refine bS ?_ ?_ _ | refine bA ?_ ?_ _ | refine bT hb3 ?_ ?_ | refine bT hb5 ?_ ?_ | refine bT hb4 ?_ ?_) | omega | (simp; omega) | simp))) HMv.out j _).walks
set_option maxRecDepth 100000 in
set_option maxHeartbeats 4000000 in
theorem wins_load {L : Lies} {u : UniL} {w : World} {s : StL} (h : Walks L u w s) (hne : s.frames ≠ []) {op dst an bn fn : Int} {ar br : Bool} {args : List (Bool × Int)} (hop : op = 18) (ha : ValOk (topR s).length ar an) (hb : ValOk (topR s).length br bn)
  (hm : 0 ≤ valL (topR s) ar an ∧ valL (topR s) ar an < s.mem.length) (hml : s.mem.length ≤ 200) (hd : dst < (topR s).length ∨ dst < 0) (p : Option Addr) (c : Nat) :
  Calls Tryd.prog 126 #[.pointer (some ⟨L.W, 0, none⟩), .agg #[.int .i64 op, .int .i64 dst, .bool ar, .int .i64 an, .bool br, .int .i64 bn, .int .i64 fn, .slice p args.length c]] w fun e w' => e = .returned (.bool (insS u s ⟨op, dst, ar, an, br, bn, fn, args⟩).2) ∧ Walks L u w' (insS u s ⟨op, dst, ar, an, br, bn, fn, args⟩).1 := by
 have HV := hidI (h.vals hne)
 have HA := hidI ha
 have HBv := hidI hb
 have HD := hidI hd
 have HNE := hidI hne
 have HW := hidI h
 subst hop
 have hi : insS u s ⟨18, dst, ar, an, br, bn, fn, args⟩ = (putS s dst (s.mem.getD (valL (topR s) ar an).toNat 0), true) := by
  unfold insS
  rw [if_pos (.inl rfl), if_neg (fun x => x hm), if_neg (by simp)]
 have hwt : wthn (valL (topR s) ar an) 0 ((s.mem.length : Int) - 1) = true := by unfold wthn; simp only [decide_eq_true_eq]; omega
 obtain ⟨ro, R, iv, ov, fv, h⟩ := h
 obtain ⟨mp, mc, hmv, c3, hmc⟩ := h.memV
 have zW := h.cells.2.2
 obtain ⟨j, hj⟩ := Int.eq_ofNat_of_zero_le hm.1
 have hjl : j < s.mem.length := by omega
 obtain ⟨M, rfl, cm, fm⟩ := hmc j hjl
 have zM := lt_of_cell cm
 have hx : s.mem.getD (valL (topR s) ar an).toNat 0 = s.mem[j] := by rw [hj]; simp [List.getD, hjl]
 rw [hx] at hi
 generalize s.mem[j] = x at *
 have HI := hidI hi
 have HWt := hidI hwt
 have HJ := hidI hj
 have g0 : (0 : Int) ≤ (j : Int) := by omega
 have g1 : (j : Int) < s.mem.length := by omega
 clear h hne ha hb hi hm hwt hmv hmc hj hx hd
 (go_enter Tryd.func126, Tryd.ntmps126; go_wp2_with fail; (go_region_with (first | (go_at_call 141; refine (HV.out _ (by repeat (first | (with_reducible first | exact bR _ _ | exact bH ‹_› | refine bD ?_ | refine bN ?_ _ | refine bS ?_ ?_ _ | refine bA ?_ ?_ _ | refine bT hb3 ?_ ?_ | refine bT hb5 ?_ ?_ | refine bT hb4 ?_ ?_) | omega | (simp; omega) | simp)) _ _ (by first | exact HA.out | exact HBv.out)).mono ?_; rintro e w1 ⟨rfl, hb1⟩; obtain ⟨hc1, hf1, hz1⟩ := bcell hb1; have HB1 : Hid (Below w.heap.size w w1) := Below.trans (by repeat (first | (with_reducible first | exact bR _ _ | exact bH ‹_› | refine bD ?_ | refine bN ?_ _ | refine bS ?_ ?_ _ | refine bA ?_ ?_ _ | refine bT hb3 ?_ ?_ | refine bT hb5 ?_ ?_ | refine bT hb4 ?_ ?_) | omega | (simp; omega) | simp)) (hb1.mono (by first | omega | (simp; done) | (simp; omega))); have hzz := HB1.out.size; (try simp at hz1); have hzb : w.heap.size < w1.heap.size := (by omega); obtain ⟨hc2, hf2, _⟩ := bcell HB1.out))))
 all_goals
  rw [HJ.out]
  go_wp2_with fail
  refine (within_any _ _ _ _).mono ?_
  have hwt := HWt.out
  rw [HJ.out] at hwt
  rw [hwt]
  clear hwt
  rintro e w3 ⟨rfl, rfl⟩
  go_wp2_with fail
  (go_region_with (go_at_call 142; refine ((HW.out.mono (by repeat (first | (with_reducible first | exact bR _ _ | exact bH ‹_› | refine bD ?_ | refine bN ?_ _ | refine bS ?_ ?_ _ | refine bA ?_ ?_ _ | refine bT hb3 ?_ ?_ | refine bT hb5 ?_ ?_ | refine bT hb4 ?_ ?_) | omega | (simp; omega) | simp))).set HNE.out dst x HD.out).mono ?_; rintro e w4 ⟨rfl, h4⟩; have H4 := hidI h4; clear h4))
 all_goals
  go_wp2_with fail
  go_ret
  exact ⟨by rw [HI.out]; rfl, by rw [HI.out]; exact H4.out⟩
end Go.Proofs.YtdjamkinijhjoaaDoor
namespace Go.Proofs.YtdjamkinijhjoaaDoor
open Go.RowKit

set_option maxRecDepth 100000 in
set_option maxHeartbeats 4000000 in
theorem wins_deep {L : Lies} {u : UniL} {w : World} {s : StL} (h : Walks L u w s) (hne : s.frames ≠ []) {op dst an bn fn : Int} {ar br : Bool} {args : List (Bool × Int)} (hop : op = 20) (ha : ValOk (topR s).length ar an) (hb : ValOk (topR s).length br bn)
  (hfr : s.frames.length = 30) (p : Option Addr) (c : Nat) :
  Calls Tryd.prog 126 #[.pointer (some ⟨L.W, 0, none⟩), .agg #[.int .i64 op, .int .i64 dst, .bool ar, .int .i64 an, .bool br, .int .i64 bn, .int .i64 fn, .slice p args.length c]] w fun e w' => e = .returned (.bool (insS u s ⟨op, dst, ar, an, br, bn, fn, args⟩).2) ∧ Walks L u w' (insS u s ⟨op, dst, ar, an, br, bn, fn, args⟩).1 := by
 have HV := hidI (h.vals hne)
 have HA := hidI ha
 have HBv := hidI hb
 have HW := hidI h
 subst hop
 have hi : insS u s ⟨20, dst, ar, an, br, bn, fn, args⟩ = ({ s with state := 4 }, false) := by
  unfold insS
  rw [if_neg (by simp), if_pos rfl, if_pos hfr]
 obtain ⟨ro, R, iv, ov, fv, h⟩ := h
 obtain ⟨F, cap, cur, hfv, _⟩ := h.frmO.2.resolve_left (by rintro ⟨_, h0⟩; omega)
 have c9 : w.cell? ⟨L.W, 9, none⟩ = some (.slice (some ⟨F, 0, none⟩) s.frames.length cap) := by rw [(blk h.head).1, ← hfv]; rfl
 have zW := lt_of_cell c9
 have hq : ((s.frames.length : Int) == 30) = true := by simp; omega
 have HI := hidI hi
 clear h hne ha hb hi hfr hfv
 (go_enter Tryd.func126, Tryd.ntmps126; go_wp2_with fail; (go_region_with (first | (go_at_call 141; refine (HV.out _ (by repeat (first | (with_reducible first | exact bR _ _ | exact bH ‹_› | refine bD ?_ | refine bN ?_ _ | refine bS ?_ ?_ _ | refine bA ?_ ?_ _ | refine bT hb3 ?_ ?_ | refine bT hb5 ?_ ?_ | refine bT hb4 ?_ ?_) | omega | (simp; omega) | simp)) _ _ (by first | exact HA.out | exact HBv.out)).mono ?_; rintro e w1 ⟨rfl, hb1⟩; obtain ⟨hc1, hf1, hz1⟩ := bcell hb1; have HB1 : Hid (Below w.heap.size w w1) := Below.trans (by repeat (first | (with_reducible first | exact bR _ _ | exact bH ‹_› | refine bD ?_ | refine bN ?_ _ | refine bS ?_ ?_ _ | refine bA ?_ ?_ _ | refine bT hb3 ?_ ?_ | refine bT hb5 ?_ ?_ | refine bT hb4 ?_ ?_) | omega | (simp; omega) | simp)) (hb1.mono (by first | omega | (simp; done) | (simp; omega))); have hzz := HB1.out.size; (try simp at hz1); have hzb : w.heap.size < w1.heap.size := (by omega); obtain ⟨hc2, hf2, _⟩ := bcell HB1.out))))
 all_goals
  go_wp2_with fail
  refine ((HW.out.mono (by repeat (first | (with_reducible first | exact bR _ _ | exact bH ‹_› | refine bD ?_ | refine bN ?_ _ | refine bS ?_ ?_ _ | refine bA ?_ ?_ _ | refine bT hb3 ?_ ?_ | refine bT hb5 ?_ ?_ | refine bT hb4 ?_ ?_) | omega | (simp; omega) | simp))).stop 4).mono ?_
  rintro e w4 ⟨rfl, h4⟩
  have H4 := hidI h4
  clear h4
  go_wp2_with fail
  go_ret
  exact ⟨by rw [HI.out]; rfl, by rw [HI.out]; exact H4.out⟩
set_option maxRecDepth 100000 in
set_option maxHeartbeats 4000000 in
theorem wins_call {L : Lies} {u : UniL} {w : World} {s : StL} (hu : UOk u) (h : Walks L u w s) (hok : StOk u s) (hst : s.steps ≤ 1000000) (hF : SliceAt L.w0 4 (FunR L.w0) L.fp u.funcs) (hne : s.frames ≠ []) {op dst an bn fn : Int} {ar br : Bool} {args : List (Bool × Int)} (hop : op = 20) (ha : ValOk (topR s).length ar an) (hb : ValOk (topR s).length br bn)
  (hfr : s.frames.length < 30) (hfn : 0 ≤ fn ∧ fn < u.funcs.length) (hal : args.length ≤ (fnU u fn.toNat).regs.toNat) (hav : ∀ v ∈ args, ValOk (topR s).length v.1 v.2 ∧ I64 v.2) (p : Option Addr) (c : Nat) (hA0 : SliceAt w 2 ValR p args) :
  Calls Tryd.prog 126 #[.pointer (some ⟨L.W, 0, none⟩), .agg #[.int .i64 op, .int .i64 dst, .bool ar, .int .i64 an, .bool br, .int .i64 bn, .int .i64 fn, .slice p args.length c]] w fun e w' => e = .returned (.bool (insS u s ⟨op, dst, ar, an, br, bn, fn, args⟩).2) ∧ Walks L u w' (insS u s ⟨op, dst, ar, an, br, bn, fn, args⟩).1 := by
 obtain ⟨i1, k1, k2, k3, k4⟩ := info_parts infoInt9
 have HV := hidI (h.vals hne)
 have HA := hidI ha
 have HBv := hidI hb
 have HW := hidI h
 have HAr := hidI hA0
 have HAv := hidI hav
 have HU := hidI hu
 have HOk := hidI hok
 have HF := hidI hF
 have HTi := hidI (topR_i64 hok.frs)
 subst hop
 obtain ⟨k, rfl⟩ := Int.eq_ofNat_of_zero_le hfn.1
 have hk : k < u.funcs.length := by omega
 have har : (fnU u k).regs ≤ 100 := (hu.fn hk).2.2.2.2.2.1
 have har0 : 0 ≤ (fnU u k).regs := (hu.fn hk).2.2.2.2.1
 rw [Int.toNat_natCast] at hal
 have hi : insS u s ⟨20, dst, ar, an, br, bn, (k : Int), args⟩ = (enterS u s k dst (args.map fun v => valL (topR s) v.1 v.2), true) := by
  unfold insS
  rw [if_neg (by simp), if_pos rfl, if_neg (by omega)]
  rfl
 have hv1 : (args.map fun v => valL (topR s) v.1 v.2).length = args.length := List.length_map _
 have hv2 : ∀ i (h : i < args.length), (args.map fun v => valL (topR s) v.1 v.2)[i]? = some (valL (topR s) args[i].1 args[i].2) := fun i h => by rw [List.getElem?_map, List.getElem?_eq_getElem h]; rfl
 have hv3 : ∀ x ∈ (args.map fun v => valL (topR s) v.1 v.2), I64 x := fun x hx => by
  obtain ⟨v, hv, rfl⟩ := List.mem_map.1 hx
  exact valL_i64 HTi.out (hav v hv).2
 generalize (args.map fun v => valL (topR s) v.1 v.2) = N at *
 obtain ⟨ro, R, iv, ov, fv, h⟩ := h
 obtain ⟨F, cap, cur, hfv, _⟩ : ∃ F cap cur, fv = .slice (some ⟨F, 0, none⟩) s.frames.length cap ∧ cur = cap := by
  obtain ⟨F, cap, cur, hfv, _⟩ := h.frmO.2.resolve_left (by rintro ⟨_, h0⟩; exact hne (List.length_eq_zero_iff.1 h0))
  exact ⟨F, cap, cap, hfv, rfl⟩
 have c9 : w.cell? ⟨L.W, 9, none⟩ = some (.slice (some ⟨F, 0, none⟩) s.frames.length cap) := by rw [(blk h.head).1, ← hfv]; rfl
 have zW := lt_of_cell c9
 have hq : ((s.frames.length : Int) == 30) = false := by simp; omega
 have HE : Hid (∀ W ap ac, Below w.heap.size w W → SliceAt W 1 IntR ap N → Calls Tryd.prog 81 #[.pointer (some ⟨L.W, 0, none⟩), .int .i64 k, .int .i64 dst, .slice ap args.length ac] W fun e w' => e = .returned (.tuple #[]) ∧ Walks L u w' (enterS u s k dst N)) := fun W ap ac hW hN => by
  have := wenter_any HU.out (HW.out.mono hW) HOk.out hst HF.out hk dst N ap ac (by omega) hN
  rw [hv1] at this
  exact this
 have HI := hidI hi
 have HV1 := hidI hv1
 have HV2 := hidI hv2
 have HV3 := hidI hv3
 have h100 : args.length ≤ 100 := by omega
 clear h hne ha hb hi hfv hu hok hF hA0 hav hfn hv1 hv2 hv3 har har0
 (go_enter Tryd.func126, Tryd.ntmps126; go_wp2_with fail; (go_region_with (first | (go_at_call 141; refine (HV.out _ (by repeat (first | (with_reducible first | exact bR _ _ | exact bH ‹_› | refine bD ?_ | refine bN ?_ _ | refine bS ?_ ?_ _ | refine bA ?_ ?_ _ | refine bT hb3 ?_ ?_ | refine bT hb5 ?_ ?_ | refine bT hb4 ?_ ?_) | omega | (simp; omega) | simp)) _ _ (by first | exact HA.out | exact HBv.out)).mono ?_; rintro e w1 ⟨rfl, hb1⟩; obtain ⟨hc1, hf1, hz1⟩ := bcell hb1; have HB1 : Hid (Below w.heap.size w w1) := Below.trans (by repeat (first | (with_reducible first | exact bR _ _ | exact bH ‹_› | refine bD ?_ | refine bN ?_ _ | refine bS ?_ ?_ _ | refine bA ?_ ?_ _ | refine bT hb3 ?_ ?_ | refine bT hb5 ?_ ?_ | refine bT hb4 ?_ ?_) | omega | (simp; omega) | simp)) (hb1.mono (by first | omega | (simp; done) | (simp; omega))); have hzz := HB1.out.size; (try simp at hz1); have hzb : w.heap.size < w1.heap.size := (by omega); obtain ⟨hc2, hf2, _⟩ := bcell HB1.out))))
 all_goals
  have hbx : ∀ o, w1.cell? ⟨w.heap.size, o, none⟩ = (#[.int .i64 20, .int .i64 dst, .bool ar, .int .i64 an, .bool br, .int .i64 bn, .int .i64 (k : Int), .slice p args.length c] : Array Value)[o]? := fun o => (hc1 w.heap.size o (by omega)).trans (by go_simp)
  clear hc1 hf1 hb1
  go_wp2_with fail
  go_loopw [7, 88] (fun v i wr => ∃ m : Nat, m ≤ args.length ∧ i = .int .i64 m ∧ wr.ownsRow w1.heap.size 3 1 v m ((N.take m).map (.int .i64)) ∧ Below w1.heap.size w1 wr) (fun _ i _ => args.length - (intOf i).toNat)
  case atStart => exact ⟨0, by omega, rfl, by rw [List.take_zero]; exact World.ownsRow_nil _ _ _ _, by repeat (first | (with_reducible first | exact bR _ _ | exact bH ‹_› | refine bD ?_ | refine bN ?_ _ | refine bS ?_ ?_ _ | refine bA ?_ ?_ _ | refine bT hb3 ?_ ?_ | refine bT hb5 ?_ ?_ | refine bT hb4 ?_ ?_) | omega | (simp; omega) | simp)⟩
  case round =>
   obtain ⟨m, hm, rfl, hown, hb⟩ := hrel
   obtain ⟨q, d, hq'⟩ := own_slice hown
   subst hq'
   have HO := hidI hown
   have HBr := hidI hb
   have HBw : Hid (Below w.heap.size w wr) := HB1.out.trans (hb.mono hzz)
   have hsz := hb.size
   by_cases hlt : m < args.length
   ·obtain ⟨b2, o2, hp2, v0, v1, _⟩ := valGet HAr.out HBw.out hlt
    subst hp2
    have z2 := lt_of_cell v0
    obtain ⟨hva, _⟩ := HAv.out _ (List.getElem_mem hlt)
    have HVm := hidI (fun W (h : Below wr.heap.size wr W) => HV.out W (HBw.out.trans (h.mono HBw.out.size)) _ _ hva)
    have HNm := hidI (HV2.out m hlt)
    clear hown hb hva
    go_wp2_with fail
    refine (HVm.out _ (by repeat (first | (with_reducible first | exact bR _ _ | exact bH ‹_› | refine bD ?_ | refine bN ?_ _ | refine bS ?_ ?_ _ | refine bA ?_ ?_ _ | refine bT hb3 ?_ ?_ | refine bT hb5 ?_ ?_ | refine bT hb4 ?_ ?_) | omega | (simp; omega) | simp))).mono ?_
    rintro e w5 ⟨rfl, hb5⟩
    have HB5 : Hid (Below wr.heap.size wr w5) := Below.trans (by repeat (first | (with_reducible first | exact bR _ _ | exact bH ‹_› | refine bD ?_ | refine bN ?_ _ | refine bS ?_ ?_ _ | refine bA ?_ ?_ _ | refine bT hb3 ?_ ?_ | refine bT hb5 ?_ ?_ | refine bT hb4 ?_ ?_) | omega | (simp; omega) | simp)) (hb5.mono (by simp))
    have HO5 := hidI (ownsRow_below' HO.out HB5.out)
    clear hb5
    go_wp2_with (at_builtin; refine wpList_append_own_at _ rfl _ _ 46 rfl w1.heap.size 3 i1 (.int .i64 0) 1 8 underInts9 k1 k2 k3 k4 rfl (by decide) _ _ _ rfl (HO5.out.alloc _) ⟨w5.heap.size, 0, none⟩ 1 1 [.int .i64 (valL (topR s) args[m].1 args[m].2)] rfl rfl (cell_one_at _ _ _ _ rfl) (by simp [Value.oneCell']) ?_ ?_ ?_ ?_)
    ·unfold maxLen; omega
    ·omega
    ·have := HB5.out.size; simp; omega
    intro v' w6 hown' hgrow _ _
    obtain ⟨g', cap', rfl⟩ := ownsRow_succ' hown'
    have HO6 : Hid (w6.ownsRow w1.heap.size 3 1 (.slice (some ⟨g', 0, none⟩) (m + 1) cap') (m + 1) ((N.take (m + 1)).map (.int .i64))) := by
     show World.ownsRow _ _ _ _ _ _ _
     rw [List.take_add_one, HNm.out, Option.toList_some, List.map_append, List.map_take]
     exact hown'
    have HB6 : Hid (Below w1.heap.size w1 w6) := by
     have h2 := HB5.out.size
     exact ((HBr.out.trans (HB5.out.mono hsz)).alloc (by omega) _).grown hgrow (by simp; omega) (fun x e => (HO.out.lt x e).1)
    clear hown' hgrow
    go_wp2_with fail
    exact ⟨⟨m + 1, by omega, by go_num, HO6.out, HB6.out⟩, by simp [intOf]; omega⟩
   ·obtain rfl : m = args.length := by omega
    have hb0 := fun o => (hb.cell (p := ⟨w.heap.size, o, none⟩) hzb).trans (hbx o)
    have y1 := hb0 1
    have y6 := hb0 6
    have zy : w.heap.size < wr.heap.size := by omega
    have hN : SliceAt wr 1 IntR q N := by
     have ho := HO.out
     rw [← HV1.out, List.take_length] at ho
     obtain ⟨p', c', e, hs⟩ := own_ints rfl ho HV3.out
     simp only [Value.slice.injEq] at e
     obtain ⟨rfl, _, _⟩ := e
     exact hs
    have HEE := hidI (fun W (h : Below wr.heap.size wr W) => HE.out W q d (HBw.out.trans (h.mono HBw.out.size)) (hN.mono h (by omega) fun _ _ g => g))
    clear hown hb hb0 hN
    go_wp2_with fail
    refine (HEE.out _ (by repeat (first | (with_reducible first | exact bR _ _ | exact bH ‹_› | refine bD ?_ | refine bN ?_ _ | refine bS ?_ ?_ _ | refine bA ?_ ?_ _ | refine bT hb3 ?_ ?_ | refine bT hb5 ?_ ?_ | refine bT hb4 ?_ ?_) | omega | (simp; omega) | simp))).mono ?_
    rintro e w6 ⟨rfl, h6⟩
    have H6 := hidI h6
    clear h6
    go_wp2_with fail
    go_ret
    exact ⟨by rw [HI.out]; rfl, by rw [HI.out]; exact H6.out⟩
end Go.Proofs.YtdjamkinijhjoaaDoor
