/-
  The contract of the walker's ins: reads and prints.
  The contract of the walker's ins: a number is read, a number is printed.
  The contract of the walker's ins: a number is printed.
  The contracts of the walker's ins and step.
-/
import Derived.WalkKit
import Derived.WalkSpells
import Derived.WalkLawsBesides
import Derived.Test.YtdjamkinijhjoaaDoorJRunH
namespace Go.Proofs.YtdjamkinijhjoaaDoor
open Go.RowKit

theorem WalkR.inpV {L : Lies} {u : UniL} {w : World} {ro R : Nat → Nat} {iv ov fv : Value} {s : StL} (h : WalkR L u w ro R iv ov fv s) : ∃ p c, iv = .slice p s.inp.length c ∧ s.inp.length ≤ c ∧ w.cell? ⟨L.W, 4, none⟩ = some (.slice p s.inp.length c) ∧ (p = none → c = 0) ∧ SliceAt L.w0 1 IntR p s.inp := by
 obtain ⟨p, c, hp, h1, h2, h3⟩ := h.inp
 refine ⟨p, c, hp, h1, ?_, h2, h3⟩
 rw [(blk h.head).1, ← hp]; rfl

set_option maxRecDepth 100000 in
set_option maxHeartbeats 4000000 in
theorem wins_read0 {L : Lies} {u : UniL} {w : World} {s : StL} (h : Walks L u w s) (hne : s.frames ≠ []) {op dst an bn fn : Int} {ar br : Bool} {args : List (Bool × Int)} (hop : op = 21) (ha : ValOk (topR s).length ar an) (hb : ValOk (topR s).length br bn)
  (hin : s.inp = []) (hd : dst < (topR s).length ∨ dst < 0) (p : Option Addr) (c : Nat) :
  Calls Tryd.prog 126 #[.pointer (some ⟨L.W, 0, none⟩), .agg #[.int .i64 op, .int .i64 dst, .bool ar, .int .i64 an, .bool br, .int .i64 bn, .int .i64 fn, .slice p args.length c]] w fun e w' => e = .returned (.bool (insS u s ⟨op, dst, ar, an, br, bn, fn, args⟩).2) ∧ Walks L u w' (insS u s ⟨op, dst, ar, an, br, bn, fn, args⟩).1 := by
 have HV := hidI (h.vals hne)
 have HA := hidI ha
 have HBv := hidI hb
 have HD := hidI hd
 have HNE := hidI hne
 have HW := hidI h
 subst hop
 have hi : insS u s ⟨21, dst, ar, an, br, bn, fn, args⟩ = (putS s dst (-1), true) := by
  unfold insS
  rw [if_neg (by simp), if_neg (by simp), if_pos rfl, hin]
 obtain ⟨ro, R, iv, ov, fv, h⟩ := h
 obtain ⟨ip, ic, _, _, c4, _, _⟩ := h.inpV
 have zW := lt_of_cell c4
 rw [hin] at c4
 have HI := hidI hi
 clear h hne ha hb hi hd hin
 (go_enter Tryd.func126, Tryd.ntmps126; go_wp2_with fail; (go_region_with (first | (go_at_call 141; refine (HV.out _ (by repeat (first | (with_reducible first | exact bR _ _ | exact bH ‹_› | refine bD ?_ | refine bN ?_ _ | refine bS ?_ ?_ _ | refine bA ?_ ?_ _ | refine bT hb3 ?_ ?_ | refine bT hb5 ?_ ?_ | refine bT hb4 ?_ ?_) | omega | (simp; omega) | simp)) _ _ (by first | exact HA.out | exact HBv.out)).mono ?_; rintro e w1 ⟨rfl, hb1⟩; obtain ⟨hc1, hf1, hz1⟩ := bcell hb1; have HB1 : Hid (Below w.heap.size w w1) := Below.trans (by repeat (first | (with_reducible first | exact bR _ _ | exact bH ‹_› | refine bD ?_ | refine bN ?_ _ | refine bS ?_ ?_ _ | refine bA ?_ ?_ _ | refine bT hb3 ?_ ?_ | refine bT hb5 ?_ ?_ | refine bT hb4 ?_ ?_) | omega | (simp; omega) | simp)) (hb1.mono (by first | omega | (simp; done) | (simp; omega))); have hzz := HB1.out.size; (try simp at hz1); have hzb : w.heap.size < w1.heap.size := (by omega); obtain ⟨hc2, hf2, _⟩ := bcell HB1.out))))
 all_goals
  go_wp2_with fail
  refine ((HW.out.mono (by repeat (first | (with_reducible first | exact bR _ _ | exact bH ‹_› | refine bD ?_ | refine bN ?_ _ | refine bS ?_ ?_ _ | refine bA ?_ ?_ _ | refine bT hb3 ?_ ?_ | refine bT hb5 ?_ ?_ | refine bT hb4 ?_ ?_) | omega | (simp; omega) | simp))).set HNE.out dst (-1) HD.out).mono ?_
  rintro e w4 ⟨rfl, h4⟩
  have H4 := hidI h4
  clear h4
  go_wp2_with fail
  go_ret
  exact ⟨by rw [HI.out]; rfl, by rw [HI.out]; exact H4.out⟩
set_option maxRecDepth 100000 in
set_option maxHeartbeats 4000000 in
theorem wins_much {L : Lies} {u : UniL} {w : World} {s : StL} (h : Walks L u w s) (hne : s.frames ≠ []) {op dst an bn fn : Int} {ar br : Bool} {args : List (Bool × Int)} (hop : op = 22) (ha : ValOk (topR s).length ar an) (hb : ValOk (topR s).length br bn)
  (hout : s.outs.length = 200) (p : Option Addr) (c : Nat) :
  Calls Tryd.prog 126 #[.pointer (some ⟨L.W, 0, none⟩), .agg #[.int .i64 op, .int .i64 dst, .bool ar, .int .i64 an, .bool br, .int .i64 bn, .int .i64 fn, .slice p args.length c]] w fun e w' => e = .returned (.bool (insS u s ⟨op, dst, ar, an, br, bn, fn, args⟩).2) ∧ Walks L u w' (insS u s ⟨op, dst, ar, an, br, bn, fn, args⟩).1 := by
 have HV := hidI (h.vals hne)
 have HA := hidI ha
 have HBv := hidI hb
 have HW := hidI h
 subst hop
 have hi : insS u s ⟨22, dst, ar, an, br, bn, fn, args⟩ = ({ s with state := 5 }, false) := by
  unfold insS
  rw [if_neg (by simp), if_neg (by simp), if_neg (by simp), if_pos rfl, if_pos hout]
 obtain ⟨ro, R, iv, ov, fv, h⟩ := h
 obtain ⟨op, oc, hov⟩ := own_slice h.outO
 have c7 : w.cell? ⟨L.W, 7, none⟩ = some (.slice op s.outs.length oc) := by rw [(blk h.head).1, ← hov]; rfl
 have zW := lt_of_cell c7
 have hq : ((s.outs.length : Int) == 200) = true := by simp; omega
 have HI := hidI hi
 clear h hne ha hb hi hout hov
 (go_enter Tryd.func126, Tryd.ntmps126; go_wp2_with fail; (go_region_with (first | (go_at_call 141; refine (HV.out _ (by repeat (first | (with_reducible first | exact bR _ _ | exact bH ‹_› | refine bD ?_ | refine bN ?_ _ | refine bS ?_ ?_ _ | refine bA ?_ ?_ _ | refine bT hb3 ?_ ?_ | refine bT hb5 ?_ ?_ | refine bT hb4 ?_ ?_) | omega | (simp; omega) | simp)) _ _ (by first | exact HA.out | exact HBv.out)).mono ?_; rintro e w1 ⟨rfl, hb1⟩; obtain ⟨hc1, hf1, hz1⟩ := bcell hb1; have HB1 : Hid (Below w.heap.size w w1) := Below.trans (by repeat (first | (with_reducible first | exact bR _ _ | exact bH ‹_› | refine bD ?_ | refine bN ?_ _ | refine bS ?_ ?_ _ | refine bA ?_ ?_ _ | refine bT hb3 ?_ ?_ | refine bT hb5 ?_ ?_ | refine bT hb4 ?_ ?_) | omega | (simp; omega) | simp)) (hb1.mono (by first | omega | (simp; done) | (simp; omega))); have hzz := HB1.out.size; (try simp at hz1); have hzb : w.heap.size < w1.heap.size := (by omega); obtain ⟨hc2, hf2, _⟩ := bcell HB1.out))))
 all_goals
  go_wp2_with fail
  refine ((HW.out.mono (by repeat (first | (with_reducible first | exact bR _ _ | exact bH ‹_› | refine bD ?_ | refine bN ?_ _ | refine bS ?_ ?_ _ | refine bA ?_ ?_ _ | refine bT hb3 ?_ ?_ | refine bT hb5 ?_ ?_ | refine bT hb4 ?_ ?_) | omega | (simp; omega) | simp))).stop 5).mono ?_
  rintro e w4 ⟨rfl, h4⟩
  have H4 := hidI h4
  clear h4
  go_wp2_with fail
  go_ret
  exact ⟨by rw [HI.out]; rfl, by rw [HI.out]; exact H4.out⟩
end Go.Proofs.YtdjamkinijhjoaaDoor
namespace Go.Proofs.YtdjamkinijhjoaaDoor
open Go.RowKit

set_option maxRecDepth 100000 in
set_option maxHeartbeats 4000000 in
theorem wins_read1 {L : Lies} {u : UniL} {w : World} {s : StL} (h : Walks L u w s) (hne : s.frames ≠ []) {op dst an bn fn : Int} {ar br : Bool} {args : List (Bool × Int)} (hop : op = 21) (ha : ValOk (topR s).length ar an) (hb : ValOk (topR s).length br bn)
  {x : Int} {l : List Int} (hin : s.inp = x :: l) (hll : l.length ≤ 140737488355328) (hd : dst < (topR s).length ∨ dst < 0) (p : Option Addr) (c : Nat) :
  Calls Tryd.prog 126 #[.pointer (some ⟨L.W, 0, none⟩), .agg #[.int .i64 op, .int .i64 dst, .bool ar, .int .i64 an, .bool br, .int .i64 bn, .int .i64 fn, .slice p args.length c]] w fun e w' => e = .returned (.bool (insS u s ⟨op, dst, ar, an, br, bn, fn, args⟩).2) ∧ Walks L u w' (insS u s ⟨op, dst, ar, an, br, bn, fn, args⟩).1 := by
 have HV := hidI (h.vals hne)
 have HA := hidI ha
 have HBv := hidI hb
 have HD := hidI hd
 have HNE := hidI hne
 subst hop
 have hi : insS u s ⟨21, dst, ar, an, br, bn, fn, args⟩ = (putS { s with inp := l } dst x, true) := by
  unfold insS
  rw [if_neg (by simp), if_neg (by simp), if_pos rfl, hin]
 obtain ⟨ro, R, iv, ov, fv, h⟩ := h
 obtain ⟨ip, ic, _, hic, c4, hipn, hS⟩ := h.inpV
 have zW := lt_of_cell c4
 have f4 := (blk h.head).2 4
 rw [hin] at c4 hic hS
 obtain ⟨b, o, rfl, cx, _⟩ := intGet hS h.below (i := 0) (by simp)
 simp only [Nat.add_zero, List.getElem_cons_zero] at cx
 have zb := lt_of_cell cx
 have hl1 : (x :: l).length = l.length + 1 := rfl
 rw [hl1] at c4 hic
 have HI := hidI hi
 by_cases hc1 : ic = 1
 ·have hl0 : l = [] := by
   apply List.eq_nil_of_length_eq_zero
   omega
  have HP : Hid (∀ X, Below w.heap.size w X → WalkR L u (X.setCell ⟨L.W, 4, none⟩ (.slice (some ⟨b, o, none⟩) 0 0)) ro R (.slice (some ⟨b, o, none⟩) 0 0) ov fv { s with inp := l }) := fun X hX => by
   have hm := h.mono hX
   exact hm.setW (s' := { s with inp := l }) (grown_set X ⟨L.W, 4, none⟩ _) (by rw [heap_set hm.head]; rfl) rfl rfl rfl rfl ⟨some ⟨b, o, none⟩, 0, by show _ = Value.slice _ l.length _; rw [hl0]; rfl, by show l.length ≤ _; rw [hl0]; exact Nat.le_refl _, by simp, .inl hl0⟩
  subst hc1
  clear h hne ha hb hi hd hin hS hl1 hipn
  (go_enter Tryd.func126, Tryd.ntmps126; go_wp2_with fail; (go_region_with (first | (go_at_call 141; refine (HV.out _ (by repeat (first | (with_reducible first | exact bR _ _ | exact bH ‹_› | refine bD ?_ | refine bN ?_ _ | refine bS ?_ ?_ _ | refine bA ?_ ?_ _ | refine bT hb3 ?_ ?_ | refine bT hb5 ?_ ?_ | refine bT hb4 ?_ ?_) | omega | (simp; omega) | simp)) _ _ (by first | exact HA.out | exact HBv.out)).mono ?_; rintro e w1 ⟨rfl, hb1⟩; obtain ⟨hc1, hf1, hz1⟩ := bcell hb1; have HB1 : Hid (Below w.heap.size w w1) := Below.trans (by repeat (first | (with_reducible first | exact bR _ _ | exact bH ‹_› | refine bD ?_ | refine bN ?_ _ | refine bS ?_ ?_ _ | refine bA ?_ ?_ _ | refine bT hb3 ?_ ?_ | refine bT hb5 ?_ ?_ | refine bT hb4 ?_ ?_) | omega | (simp; omega) | simp)) (hb1.mono (by first | omega | (simp; done) | (simp; omega))); have hzz := HB1.out.size; (try simp at hz1); have hzb : w.heap.size < w1.heap.size := (by omega); obtain ⟨hc2, hf2, _⟩ := bcell HB1.out))))
  all_goals
   go_wp2_with fail
   refine (wset_any (HP.out _ (by repeat (first | (with_reducible first | exact bR _ _ | exact bH ‹_› | refine bD ?_ | refine bN ?_ _ | refine bS ?_ ?_ _ | refine bA ?_ ?_ _ | refine bT hb3 ?_ ?_ | refine bT hb5 ?_ ?_ | refine bT hb4 ?_ ?_) | omega | (simp; omega) | simp))) HNE.out dst x HD.out).mono ?_
   rintro e w4 ⟨rfl, h4⟩
   have H4 := hidI h4
   clear h4
   go_wp2_with fail
   go_ret
   exact ⟨by rw [HI.out]; rfl, by rw [HI.out]; exact H4.out.walks⟩
 ·have hS2 : SliceAt L.w0 1 IntR (some ⟨b, o + 1, none⟩) l := by
   rcases hS with h0 | ⟨b', o', hp, hS⟩
   ·cases h0
   ·cases hp
    refine .inr ⟨b, o + 1, rfl, fun i hi => ?_⟩
    obtain ⟨cs, h1, h2, h3⟩ := hS (i + 1) (by simpa using hi)
    refine ⟨cs, h1, fun j hj => ?_, by simpa using h3⟩
    have := h2 j hj
    rw [← this]
    congr 2
    omega
  have HP : Hid (∀ X, Below w.heap.size w X → WalkR L u (X.setCell ⟨L.W, 4, none⟩ (.slice (some ⟨b, o + 1, none⟩) l.length (ic - 1))) ro R (.slice (some ⟨b, o + 1, none⟩) l.length (ic - 1)) ov fv { s with inp := l }) := fun X hX => by
   have hm := h.mono hX
   exact hm.setW (s' := { s with inp := l }) (grown_set X ⟨L.W, 4, none⟩ _) (by rw [heap_set hm.head]; rfl) rfl rfl rfl rfl ⟨_, _, rfl, by show l.length ≤ _; omega, by simp, hS2⟩
  clear h hne ha hb hi hd hin hS hS2 hl1 hipn
  (go_enter Tryd.func126, Tryd.ntmps126; go_wp2_with fail; (go_region_with (first | (go_at_call 141; refine (HV.out _ (by repeat (first | (with_reducible first | exact bR _ _ | exact bH ‹_› | refine bD ?_ | refine bN ?_ _ | refine bS ?_ ?_ _ | refine bA ?_ ?_ _ | refine bT hb3 ?_ ?_ | refine bT hb5 ?_ ?_ | refine bT hb4 ?_ ?_) | omega | (simp; omega) | simp)) _ _ (by first | exact HA.out | exact HBv.out)).mono ?_; rintro e w1 ⟨rfl, hb1⟩; obtain ⟨hc1, hf1, hz1⟩ := bcell hb1; have HB1 : Hid (Below w.heap.size w w1) := Below.trans (by repeat (first | (with_reducible first | exact bR _ _ | exact bH ‹_› | refine bD ?_ | refine bN ?_ _ | refine bS ?_ ?_ _ | refine bA ?_ ?_ _ | refine bT hb3 ?_ ?_ | refine bT hb5 ?_ ?_ | refine bT hb4 ?_ ?_) | omega | (simp; omega) | simp)) (hb1.mono (by first | omega | (simp; done) | (simp; omega))); have hzz := HB1.out.size; (try simp at hz1); have hzb : w.heap.size < w1.heap.size := (by omega); obtain ⟨hc2, hf2, _⟩ := bcell HB1.out))))
  all_goals
   go_wp2_with fail
   refine (wset_any (HP.out _ (by repeat (first | (with_reducible first | exact bR _ _ | exact bH ‹_› | refine bD ?_ | refine bN ?_ _ | refine bS ?_ ?_ _ | refine bA ?_ ?_ _ | refine bT hb3 ?_ ?_ | refine bT hb5 ?_ ?_ | refine bT hb4 ?_ ?_) | omega | (simp; omega) | simp))) HNE.out dst x HD.out).mono ?_
   rintro e w4 ⟨rfl, h4⟩
   have H4 := hidI h4
   clear h4
   go_wp2_with fail
   go_ret
   exact ⟨by rw [HI.out]; rfl, by rw [HI.out]; exact H4.out.walks⟩
end Go.Proofs.YtdjamkinijhjoaaDoor
namespace Go.Proofs.YtdjamkinijhjoaaDoor
open Go.RowKit

set_option maxRecDepth 100000 in
set_option maxHeartbeats 4000000 in
theorem wins_print {L : Lies} {u : UniL} {w : World} {s : StL} (h : Walks L u w s) (hne : s.frames ≠ []) {op dst an bn fn : Int} {ar br : Bool} {args : List (Bool × Int)} (hop : op = 22) (ha : ValOk (topR s).length ar an) (hb : ValOk (topR s).length br bn)
  (hout : s.outs.length < 200) (p : Option Addr) (c : Nat) :
  Calls Tryd.prog 126 #[.pointer (some ⟨L.W, 0, none⟩), .agg #[.int .i64 op, .int .i64 dst, .bool ar, .int .i64 an, .bool br, .int .i64 bn, .int .i64 fn, .slice p args.length c]] w fun e w' => e = .returned (.bool (insS u s ⟨op, dst, ar, an, br, bn, fn, args⟩).2) ∧ Walks L u w' (insS u s ⟨op, dst, ar, an, br, bn, fn, args⟩).1 := by
 obtain ⟨i1, k1, k2, k3, k4⟩ := info_parts infoInt9
 have HV := hidI (h.vals hne)
 have HA := hidI ha
 have HBv := hidI hb
 subst hop
 have hi : insS u s ⟨22, dst, ar, an, br, bn, fn, args⟩ = ({ s with outs := s.outs ++ [valL (topR s) ar an] }, true) := by
  unfold insS
  rw [if_neg (by simp), if_neg (by simp), if_neg (by simp), if_pos rfl, if_neg (by omega)]
 obtain ⟨ro, R, iv, ov, fv, h⟩ := h
 obtain ⟨q, oc, hov⟩ := own_slice h.outO
 have c7 : w.cell? ⟨L.W, 7, none⟩ = some (.slice q s.outs.length oc) := by rw [(blk h.head).1, ← hov]; rfl
 have f7 := (blk h.head).2 7
 have zW := lt_of_cell c7
 have hq : ((s.outs.length : Int) == 200) = false := by rw [beq_eq_false_iff_ne]; omega
 have zH := h.below.size
 have HI := hidI hi
 have H := hidI h
 have HOv := hidI hov
 clear h hne ha hb hi hov
 (go_enter Tryd.func126, Tryd.ntmps126; go_wp2_with fail; (go_region_with (first | (go_at_call 141; refine (HV.out _ (by repeat (first | (with_reducible first | exact bR _ _ | exact bH ‹_› | refine bD ?_ | refine bN ?_ _ | refine bS ?_ ?_ _ | refine bA ?_ ?_ _ | refine bT hb3 ?_ ?_ | refine bT hb5 ?_ ?_ | refine bT hb4 ?_ ?_) | omega | (simp; omega) | simp)) _ _ (by first | exact HA.out | exact HBv.out)).mono ?_; rintro e w1 ⟨rfl, hb1⟩; obtain ⟨hc1, hf1, hz1⟩ := bcell hb1; have HB1 : Hid (Below w.heap.size w w1) := Below.trans (by repeat (first | (with_reducible first | exact bR _ _ | exact bH ‹_› | refine bD ?_ | refine bN ?_ _ | refine bS ?_ ?_ _ | refine bA ?_ ?_ _ | refine bT hb3 ?_ ?_ | refine bT hb5 ?_ ?_ | refine bT hb4 ?_ ?_) | omega | (simp; omega) | simp)) (hb1.mono (by first | omega | (simp; done) | (simp; omega))); have hzz := HB1.out.size; (try simp at hz1); have hzb : w.heap.size < w1.heap.size := (by omega); obtain ⟨hc2, hf2, _⟩ := bcell HB1.out))))
 all_goals
  have H1 := hidI (H.out.mono HB1.out)
  have HOw : Hid (w1.ownsRow L.w0.heap.size 3 1 (.slice q s.outs.length oc) s.outs.length (s.outs.map (.int .i64))) := by rw [← HOv.out]; exact H1.out.outO
  have hzw : L.W < w1.heap.size := by omega
  go_wp2_with (at_builtin; refine wpList_append_own_at _ rfl _ _ 46 rfl L.w0.heap.size 3 i1 (.int .i64 0) 1 8 underInts9 k1 k2 k3 k4 rfl (by decide) _ _ _ rfl (HOw.out.alloc _) ⟨w1.heap.size, 0, none⟩ 1 1 [.int .i64 (valL (topR s) ar an)] rfl rfl (cell_one_at _ _ _ _ rfl) (by simp [Value.oneCell']) ?_ ?_ ?_ ?_)
  ·unfold maxLen; omega
  ·omega
  ·simp; omega
  intro v' w6 hown' hgrow _ hv'
  obtain ⟨g', cap', rfl⟩ := ownsRow_succ' hown'
  have hfne : ∀ g, (Value.slice q s.outs.length oc).ownBlock = some g → g < w.heap.size ∧ g ≠ L.W := fun g e => by
   rw [← HOv.out] at e
   exact ⟨(H.out.outO.lt g e).2, fun e2 => by subst e2; have := H.out.roO _ e; have := H.out.roW; omega⟩
  have hg2 : w.grownBy w6 ov.ownBlock := by
   rw [HOv.out]
   exact grown_trans (by repeat (first | (with_reducible first | exact bR _ _ | exact bH ‹_› | refine bD ?_ | refine bN ?_ _ | refine bS ?_ ?_ _ | refine bA ?_ ?_ _ | refine bT hb3 ?_ ?_ | refine bT hb5 ?_ ?_ | refine bT hb4 ?_ ?_) | omega | (simp; omega) | simp)) hgrow
  have hh2 : w6.heap[L.W]? = some (.cells (headC L u iv ov fv s) 148 (0, 0)) := (hg2.block _ zW (fun e => by rw [HOv.out] at e; exact (hfne _ e.symm).2 rfl)).trans H.out.head
  have HPs := hidI (H.out.print (x := valL (topR s) ar an) (w'' := w6.setCell ⟨L.W, 7, none⟩ (.slice (some ⟨g', 0, none⟩) (s.outs.length + 1) cap')) hg2 hown'
   (by
    rw [HOv.out]
    refine hv'.imp id fun e g e2 => ?_
    rw [e] at e2
    cases e2
    first | omega | (simp; omega)) (grown_set _ _ _) (by rw [heap_set hh2]; rfl))
  have d7 := (blk hh2).1 7
  have q7 := (blk hh2).2 7
  have zW2 : L.W < w6.heap.size := (Array.getElem?_eq_some_iff.1 hh2).1
  clear hown' hgrow hv' hfne hg2 hh2
  go_wp2_with fail
  go_ret
  exact ⟨by rw [HI.out]; rfl, by rw [HI.out]; exact HPs.out.walks⟩
end Go.Proofs.YtdjamkinijhjoaaDoor
namespace Go.Proofs.YtdjamkinijhjoaaDoor
open Go.RowKit

theorem wins_any {L : Lies} {u : UniL} {w : World} {s : StL} (hu : UOk u) (h : Walks L u w s) (hok : StOk u s) (hst : s.steps ≤ 1000000) (hil : s.inp.length ≤ 140737488355328) (hF : SliceAt L.w0 4 (FunR L.w0) L.fp u.funcs) {f : FrL} {rest : List FrL} (hs : s.frames = f :: rest)
  {op dst an bn fn : Int} {ar br : Bool} {args : List (Bool × Int)} (hx : (⟨op, dst, ar, an, br, bn, fn, args⟩ : InsL) ∈ (topB u f).list) (p : Option Addr) (c : Nat) (hA : SliceAt w 2 ValR p args) :
  Calls Tryd.prog 126 #[.pointer (some ⟨L.W, 0, none⟩), .agg #[.int .i64 op, .int .i64 dst, .bool ar, .int .i64 an, .bool br, .int .i64 bn, .int .i64 fn, .slice p args.length c]] w fun e w' => e = .returned (.bool (insS u s ⟨op, dst, ar, an, br, bn, fn, args⟩).2) ∧ Walks L u w' (insS u s ⟨op, dst, ar, an, br, bn, fn, args⟩).1 := by
 have hf := hok.frs f (by rw [hs]; exact List.mem_cons_self)
 have hne : s.frames ≠ [] := by rw [hs]; simp
 have htop : topR s = f.regs := by unfold topR; rw [hs]
 obtain ⟨_, _, _, _, hr0, hr1, _⟩ := hu.fn hf.fn
 have hrl : ((topR s).length : Int) = (fnU u f.fn).regs := by
  have := hf.regs
  rw [htop]
  omega
 obtain ⟨hi, ha, hb, hav⟩ := hu.ins hf hx
 have hopr := hi.op
 have hdst := hi.dst
 have hA' := hi.a
 have hB' := hi.b
 have hC := hi.call
 have hG := hi.arg
 simp only at hopr hdst hA' hB' hC hG ha hb hav
 rw [← hrl] at hdst hA' hB' hG
 have hd : dst < (topR s).length ∨ dst < 0 := by omega
 by_cases h1 : op ≤ 17
 ·exact wins_two h hok hne ⟨hopr.1, h1⟩ hA' hB' ha hd p c
 by_cases h2 : op = 18 ∨ op = 19
 ·by_cases hm : 0 ≤ valL (topR s) ar an ∧ valL (topR s) ar an < s.mem.length
  ·rcases h2 with h2 | h2
   ·exact wins_load h hne h2 hA' hB' hm hok.mem hd p c
   ·exact wins_store h hne h2 hA' hB' hm hok.mem p c
  ·exact wins_bad h hok hne h2 hA' hB' hm p c
 by_cases h3 : op = 20
 ·by_cases hfr : s.frames.length = 30
  ·exact wins_deep h hne h3 hA' hB' hfr p c
  ·obtain ⟨g1, g2⟩ := hC h3
   have hk : fn.toNat < u.funcs.length := by omega
   have hp := (hu.chk.fn hk).2.1.1
   have hpar : parU u fn.toNat = u.funcs[fn.toNat].params := by unfold parU; simp [List.getD, hk]
   obtain ⟨_, _, _, _, q0, _⟩ := hu.fn hk
   refine wins_call hu h hok hst hF hne h3 hA' hB' (by have := hok.few; omega) g1 ?_ (fun v hv => ⟨hG v hv, hav v hv⟩) p c hA
   rw [fnU_get hk]
   rw [fnU_get hk] at q0
   omega
 by_cases h4 : op = 21
 ·cases hin : s.inp with
  | nil => exact wins_read0 h hne h4 hA' hB' hin hd p c
  | cons x l => exact wins_read1 h hne h4 hA' hB' hin (by rw [hin] at hil; simp at hil; omega) hd p c
 ·have h5 : op = 22 := by omega
  by_cases hout : s.outs.length = 200
  ·exact wins_much h hne h5 hA' hB' hout p c
  ·exact wins_print h hne h5 hA' hB' (by have := hok.outs; omega) p c
theorem StOk.next {u : UniL} {s : StL} (h : StOk u s) {f : FrL} {rest : List FrL} (hs : s.frames = f :: rest) (hlt : f.pos < (topB u f).list.length) : StOk' u { s with steps := s.steps + 1, frames := { f with pos := f.pos + 1 } :: rest } := by
 have ht := h.tick
 have h1 := ht.frs
 have h2 := ht.dst
 have h3 := ht.few
 simp only [hs] at h1 h2 h3
 have hf := h1 f List.mem_cons_self
 exact ⟨fun g hg => by
  rcases List.mem_cons.1 hg with e | e
  ·rw [e]; exact ⟨hf.fn, hf.block, hlt, hf.regs, hf.i64⟩
  ·exact h1 g (List.mem_cons_of_mem _ e), h2.head rfl, h3, ht.outs, ht.outI, ht.mem, ht.memI, ht.inpI, ht.cnt, ht.val⟩
theorem hdS_step {L : Lies} {u : UniL} {iv ov fv : Value} {s : StL} : (headC L u iv ov fv s).setIfInBounds 8 (.int .i64 ((s.steps : Int) + 1)) = headC L u iv ov fv { s with steps := s.steps + 1 } := by
 unfold headC
 simp

set_option maxRecDepth 100000 in
set_option maxHeartbeats 4000000 in
theorem wstep_any {L : Lies} {u : UniL} {w : World} {s : StL} (hu : UOk u) (h : Walks L u w s) (hok : StOk u s) (hst : s.steps < 1000000) (hil : s.inp.length ≤ 140737488355328) (hF : SliceAt L.w0 4 (FunR L.w0) L.fp u.funcs) (hne : s.frames ≠ []) :
  Calls Tryd.prog 84 #[.pointer (some ⟨L.W, 0, none⟩)] w fun e w' => e = .returned (.bool (stepS u s).2) ∧ Walks L u w' (stepS u s).1 := by
 cases hs : s.frames with
 | nil => exact absurd hs hne
 | cons f rest =>
  have hf := hok.frs f (by rw [hs]; exact List.mem_cons_self)
  obtain ⟨ro, R, iv, ov, fv, h0⟩ := h
  obtain ⟨F, cap, hfv, hlen, hcap, hl, _⟩ := h0.frm hs
  have hT0 := hidI (top_any h0 hs hfv)
  have H0 := hidI h0
  have HOk := hidI hok
  have HU := hidI hu
  have HF := hidI hF
  have HFv := hidI hfv
  have HS := hidI hs
  have HFr := hidI hf
  clear h0 hok hu hF hfv hs hf
  go_enter Tryd.func84, Tryd.ntmps84
  go_wp2_with fail
  refine hT0.out.mono ?_
  rintro e w1 ⟨rfl, nq, hw1⟩
  have h : WalkR L u w1 ro R iv ov fv s := by rw [hw1]; exact H0.out.mono (by repeat (first | (with_reducible first | exact bR _ _ | exact bH ‹_› | refine bD ?_ | refine bN ?_ _ | refine bS ?_ ?_ _ | refine bA ?_ ?_ _ | refine bT hb3 ?_ ?_ | refine bT hb5 ?_ ?_ | refine bT hb4 ?_ ?_) | omega | (simp; omega) | simp))
  clear hw1 hT0 H0
  obtain ⟨_, _, hfv', _, _, _, c9, cf0, cf1, cf2, cf3, cf4⟩ := h.frm HS.out
  have hfv2 := HFv.out
  rw [hfv'] at hfv2
  simp only [Value.slice.injEq, Option.some.injEq, Addr.mk.injEq, and_true, true_and] at hfv2
  obtain ⟨rfl, rfl⟩ := hfv2
  clear hfv'
  have hfn := HFr.out.fn
  have hbk := HFr.out.block
  obtain ⟨fb, fo, bp, bc, hfp, _, _, _, e4, _, _, _, hbl, hB⟩ := funGet HF.out (Below.refl _ _) hfn
  rw [← fnU_get hfn] at e4 hbl hB
  obtain ⟨bb, bo, pp, pc, lp, lc, tp, tc, hbp, b0, b1, b2, b3, b4, b5, _, _, _, hll, htl, _, hLi, hTo⟩ := blkGet hB (Below.refl _ _) hbk
  have hTB : topB u f = (fnU u f.fn).blocks[f.block] := by unfold topB; exact blF_get hbk
  rw [← hTB] at b0 b1 b2 b3 b4 b5 hll htl hLi hTo
  subst hbp
  have hcl := fun b o v (g : L.w0.cell? ⟨b, o, none⟩ = some v) => (h.below.cell (p := ⟨b, o, none⟩) (lt_of_cell g)).trans g
  replace e4 := hcl _ _ _ e4
  replace b0 := hcl _ _ _ b0
  replace b1 := hcl _ _ _ b1
  replace b2 := hcl _ _ _ b2
  replace b3 := hcl _ _ _ b3
  replace b4 := hcl _ _ _ b4
  replace b5 := hcl _ _ _ b5
  have hcs := blk h.head
  have c1 : w1.cell? ⟨L.W, 1, none⟩ = some (.slice (some ⟨fb, fo, none⟩) u.funcs.length L.fc) := by rw [hcs.1, ← hfp]; rfl
  have c8 : w1.cell? ⟨L.W, 8, none⟩ = some (.int .i64 (s.steps : Int)) := by rw [hcs.1]; rfl
  have f8 := hcs.2 8
  have n0 : (0 : Int) ≤ (f.fn : Int) := by omega
  have n1 : (f.fn : Int) < u.funcs.length := by omega
  have n2 : (0 : Int) ≤ (f.block : Int) := by omega
  have n3 : (f.block : Int) < (fnU u f.fn).blocks.length := by omega
  have zW := lt_of_cell c1
  have zF := lt_of_cell cf0
  have zf := lt_of_cell e4
  have zb := lt_of_cell b0
  have H := hidI h
  have HLi := hidI hLi
  have HTo := hidI hTo
  clear h hcl hcs hLi hTo hB hTB
  go_wp2_with fail
  go_region
  go_wp2_with fail
  have H2 : WalkR L u (w1.setCell ⟨L.W, 8, none⟩ (.int .i64 ((s.steps : Int) + 1))) ro R iv ov fv { s with steps := s.steps + 1 } :=
   H.out.setW (s' := { s with steps := s.steps + 1 }) (grown_set w1 ⟨L.W, 8, none⟩ _) (by rw [heap_set H.out.head, hdS_step]) rfl rfl rfl rfl H.out.inp
  obtain ⟨W2, hW2⟩ : ∃ W2, W2 = ((w1.setCell ⟨L.W, 8, none⟩ (.int .i64 ((s.steps : Int) + 1))).alloc (.cells #[.slice pp (topB u f).phis.length pc, .slice lp (topB u f).list.length lc, .int .i64 (topB u f).fin.kind, .bool (topB u f).fin.onr, .int .i64 (topB u f).fin.onn, .slice tp (topB u f).fin.to.length tc] 50)).drew := ⟨_, rfl⟩
  rw [← hW2]
  have hbx := (blk (heap_drew (heap_at (w := w1.setCell ⟨L.W, 8, none⟩ (.int .i64 ((s.steps : Int) + 1))) (o := .cells #[.slice pp (topB u f).phis.length pc, .slice lp (topB u f).list.length lc, .int .i64 (topB u f).fin.kind, .bool (topB u f).fin.onr, .int .i64 (topB u f).fin.onn, .slice tp (topB u f).fin.to.length tc] 50) (k := w1.heap.size) (by simp [World.setCell])))).1
  rw [← hW2] at hbx
  have H3 : WalkR L u W2 ro R iv ov fv { s with steps := s.steps + 1 } := by rw [hW2]; exact H2.mono (by repeat (first | (with_reducible first | exact bR _ _ | exact bH ‹_› | refine bD ?_ | refine bN ?_ _ | refine bS ?_ ?_ _ | refine bA ?_ ?_ _ | refine bT hb3 ?_ ?_ | refine bT hb5 ?_ ?_ | refine bT hb4 ?_ ?_) | omega | (simp; omega) | simp))
  clear hW2 H2 c9 cf0 cf1 cf2 cf3 cf4 e4 b0 b1 b2 b3 b4 b5 c1 c8 f8 H
  obtain ⟨F, cap, hfv', _, _, _, c9, _, _, cf2, _, _⟩ := H3.frm (s := { s with steps := s.steps + 1 }) HS.out
  have hfv2 := HFv.out
  rw [hfv'] at hfv2
  simp only [Value.slice.injEq, Option.some.injEq, Addr.mk.injEq, and_true, true_and] at hfv2
  obtain ⟨rfl, rfl⟩ := hfv2
  have x1 := hbx 1
  have x2 := hbx 2
  have x3 := hbx 3
  have x4 := hbx 4
  have x5 := hbx 5
  have zx : w1.heap.size < W2.heap.size := lt_of_cell x2
  have zF2 := lt_of_cell cf2
  have hfz := H3.frmZ hfv' (rest.length * 5 + 2)
  have hpl := HFr.out.pos
  have HH3 := hidI H3
  have HFv' := hidI hfv'
  clear H3 hfv' hbx HFv
  by_cases hp : f.pos = (topB u f).list.length
  ·have hq : ((f.pos : Int) == ((topB u f).list.length : Int)) = true := by simp [hp]
   have HSt : Hid (stepS u s = endS u { s with steps := s.steps + 1 } (topB u f).fin) := by
    show _ = _
    unfold stepS
    rw [HS.out]
    simp only
    rw [if_pos hp, ← HS.out]
   have HE := hidI (fun W (h : Below W2.heap.size W2 W) => wend_any HU.out ((HH3.out.mono h).walks) HOk.out.tick.ok (by show s.steps + 1 ≤ _; omega) HF.out (f := f) (rest := rest) HS.out (kind := (topB u f).fin.kind) (onn := (topB u f).fin.onn) (onr := (topB u f).fin.onr) (to := (topB u f).fin.to) rfl tp tc (HTo.out.mono (HH3.out.below.trans (h.mono HH3.out.below.size)) (by omega) fun _ _ g => g))
   clear hp
   go_quiet (fail)
   go_wp2_with fail
   refine (HE.out _ (by repeat (first | (with_reducible first | exact bR _ _ | exact bH ‹_› | refine bD ?_ | refine bN ?_ _ | refine bS ?_ ?_ _ | refine bA ?_ ?_ _ | refine bT hb3 ?_ ?_ | refine bT hb5 ?_ ?_ | refine bT hb4 ?_ ?_) | omega | (simp; omega) | simp))).mono ?_
   rintro e w5 ⟨rfl, h5⟩
   have H5 := hidI h5
   clear h5
   go_wp2_with fail
   go_ret
   exact ⟨by rw [HSt.out]; rfl, by rw [HSt.out]; exact H5.out⟩
  ·have hlt : f.pos < (topB u f).list.length := by omega
   have hq : ((f.pos : Int) == ((topB u f).list.length : Int)) = false := by rw [beq_eq_false_iff_ne]; omega
   have hgd : (topB u f).list.getD f.pos noI = (topB u f).list[f.pos] := by simp [List.getD, hlt]
   have HSt : Hid (stepS u s = insS u { s with steps := s.steps + 1, frames := { f with pos := f.pos + 1 } :: rest } (topB u f).list[f.pos]) := by
    show _ = _
    unfold stepS
    rw [HS.out]
    simp only
    rw [if_neg hp, hgd]
   obtain ⟨lb, lo, q8, c8, hlp, i0, i1, i2, i3, i4, i5, i6, i7, _, _, _, _, _, _, hAr⟩ := insGet HLi.out (Below.refl _ _) hlt
   subst hlp
   have hmem := List.getElem_mem hlt
   have HAr := hidI hAr
   have HN := hidI (HOk.out.next HS.out hlt)
   have hgp : (0 : Int) ≤ (f.pos : Int) := by omega
   have hgq : (f.pos : Int) < (topB u f).list.length := by omega
   have hps : f.pos ≤ 140737488355328 := by omega
   clear hp hAr hgd
   generalize (topB u f).list[f.pos] = X at *
   go_quiet (fail)
   go_wp2_with fail
   have H4 : WalkR L u ((W2.drewN nq).setCell ⟨F, rest.length * 5 + 2, none⟩ (.int .i64 ((f.pos : Int) + 1))) ro R iv ov fv { s with steps := s.steps + 1, frames := { f with pos := f.pos + 1 } :: rest } := by
    have := (HH3.out.mono (w' := W2.drewN nq) (by repeat (first | (with_reducible first | exact bR _ _ | exact bH ‹_› | refine bD ?_ | refine bN ?_ _ | refine bS ?_ ?_ _ | refine bA ?_ ?_ _ | refine bT hb3 ?_ ?_ | refine bT hb5 ?_ ?_ | refine bT hb4 ?_ ?_) | omega | (simp; omega) | simp))).setFr (f' := { f with pos := f.pos + 1 }) HS.out HFv'.out (frCells_set2 R f rest (f.pos + 1)) rfl
    have e : ((f.pos + 1 : Nat) : Int) = (f.pos : Int) + 1 := by omega
    rw [e] at this
    exact this
   obtain ⟨W3, hW3⟩ : ∃ W3, W3 = (W2.drewN nq).setCell ⟨F, rest.length * 5 + 2, none⟩ (.int .i64 ((f.pos : Int) + 1)) := ⟨_, rfl⟩
   rw [← hW3] at H4
   rw [← hW3]
   have y1 : W3.cell? ⟨w1.heap.size, 1, none⟩ = some (.slice (some ⟨lb, lo, none⟩) (topB u f).list.length lc) := by
    rw [hW3]
    exact (cell_ne (by omega)).trans x1
   clear hW3 x1 x2 x3 x4 x5 cf2 hfz c9 HH3
   obtain ⟨F4, cap4, hfv', _, _, _, _, _, _, cf2, _, _⟩ := H4.frm rfl
   have hfv2 := HFv'.out
   rw [hfv'] at hfv2
   simp only [Value.slice.injEq, Option.some.injEq, Addr.mk.injEq, and_true] at hfv2
   obtain ⟨rfl, _⟩ := hfv2
   have e : ((f.pos + 1 : Nat) : Int) = (f.pos : Int) + 1 := by omega
   simp only at cf2
   rw [e] at cf2
   have hcl := fun b o v (g : L.w0.cell? ⟨b, o, none⟩ = some v) => (H4.below.cell (p := ⟨b, o, none⟩) (lt_of_cell g)).trans g
   have j0 := hcl _ _ _ i0
   have j1 := hcl _ _ _ i1
   have j2 := hcl _ _ _ i2
   have j3 := hcl _ _ _ i3
   have j4 := hcl _ _ _ i4
   have j5 := hcl _ _ _ i5
   have j6 := hcl _ _ _ i6
   have j7 := hcl _ _ _ i7
   have z1 := lt_of_cell y1
   have z2 := lt_of_cell cf2
   have z3 := lt_of_cell j0
   have HIn := hidI (fun W (h : Below W3.heap.size W3 W) => wins_any (s := { s with steps := s.steps + 1, frames := { f with pos := f.pos + 1 } :: rest }) HU.out ((H4.mono h).walks) HN.out.ok (by show s.steps + 1 ≤ _; omega) hil HF.out (f := { f with pos := f.pos + 1 }) (rest := rest) rfl (op := X.op) (dst := X.dst) (an := X.an) (bn := X.bn) (fn := X.fn) (ar := X.ar) (br := X.br) (args := X.args) hmem q8 c8 (HAr.out.mono (H4.below.trans (h.mono H4.below.size)) (by omega) fun _ _ g => g))
   have qw : IntKind.i64.wrap (f.pos : Int) = (f.pos : Int) := IntWalk.i64_in _ (by omega)
   clear i0 i1 i2 i3 i4 i5 i6 i7 hcl e H4 hfv' HN HAr hmem
   (go_region_with (go_at_call 126; refine (HIn.out _ (by repeat (first | (with_reducible first | exact bR _ _ | exact bH ‹_› | refine bD ?_ | refine bN ?_ _ | refine bS ?_ ?_ _ | refine bA ?_ ?_ _ | refine bT hb3 ?_ ?_ | refine bT hb5 ?_ ?_ | refine bT hb4 ?_ ?_) | omega | (simp; omega) | simp))).mono ?_; rintro e w5 ⟨rfl, h5⟩; have H5 := hidI h5; clear h5))
   all_goals
    go_wp2_with fail
    go_ret
    exact ⟨by rw [HSt.out]; rfl, by rw [HSt.out]; exact H5.out⟩
end Go.Proofs.YtdjamkinijhjoaaDoor
