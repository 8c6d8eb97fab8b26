/-
  The contract of the walker's ins.
-/
import Derived.Test.YtdjamkinijhjoaaDoorRunD
import Derived.Test.YtdjamkinijhjoaaDoorBSoA
import Derived.Deep.RegionWith
import Derived.WalkKit
import Derived.WalkSpells
import Derived.WalkLawsBesides
namespace Go.Proofs.YtdjamkinijhjoaaDoor
open Go.RowKit

theorem Walks.vals {L : Lies} {u : UniL} {w : World} {s : StL} (h : Walks L u w s) (hne : s.frames ≠ []) : ∀ W, Below w.heap.size w W → ∀ r n, ValOk (topR s).length r n → Calls Tryd.prog 141 #[.pointer (some ⟨L.W, 0, none⟩), .agg #[.bool r, .int .i64 n]] W fun e w' => e = .returned (.int .i64 (valL (topR s) r n)) ∧ Below W.heap.size W w' :=
  fun _ hb r n hv => (h.mono hb).val hne r n hv

set_option maxRecDepth 100000 in
set_option maxHeartbeats 2000000 in
theorem wins_two {L : Lies} {u : UniL} {w : World} {s : StL} (h : Walks L u w s) (hok : StOk u s) (hne : s.frames ≠ []) {op dst an bn fn : Int} {ar br : Bool} {args : List (Bool × Int)} (hop : 1 ≤ op ∧ op ≤ 17) (ha : ValOk (topR s).length ar an) (hb : ValOk (topR s).length br bn) (hai : I64 an)
    (hd : dst < (topR s).length ∨ dst < 0) (p : Option Addr) (c : Nat) :
    Calls Tryd.prog 126 #[.pointer (some ⟨L.W, 0, none⟩), .agg #[.int .i64 op, .int .i64 dst, .bool ar, .int .i64 an, .bool br, .int .i64 bn, .int .i64 fn, .slice p args.length c]] w fun e w' => e = .returned (.bool (insS u s ⟨op, dst, ar, an, br, bn, fn, args⟩).2) ∧ Walks L u w' (insS u s ⟨op, dst, ar, an, br, bn, fn, args⟩).1 := by
  have HV := hidI (h.vals hne)
  have HA := hidI ha
  have HBv := hidI hb
  have HAi : Hid (I64 (valL (topR s) ar an)) := valL_i64 (topR_i64 hok.frs) hai
  have HW := hidI h
  have HD := hidI hd
  have HNE := hidI hne
  have q18 : (op == 18) = false := by simp; omega
  have q19 : (op == 19) = false := by simp; omega
  have q20 : (op == 20) = false := by simp; omega
  have q21 : (op == 21) = false := by simp; omega
  have q22 : (op == 22) = false := by simp; omega
  have hi : insS u s ⟨op, dst, ar, an, br, bn, fn, args⟩ = if (twoL op (valL (topR s) ar an) (valL (topR s) br bn)).2 = false then ({ s with state := 2 }, false) else (putS s dst (twoL op (valL (topR s) ar an) (valL (topR s) br bn)).1, true) := by
    unfold insS
    rw [if_neg (by simp only; omega), if_neg (by simp only; omega), if_neg (by simp only; omega), if_neg (by simp only; omega)]
  have HI := hidI hi
  clear h hok hne ha hb hai hd hi
  generalize hta : twoL op (valL (topR s) ar an) (valL (topR s) br bn) = tt at HI
  obtain ⟨n, ok⟩ := tt
  have HTa := hidI hta
  clear hta
  cases ok
  · (go_enter Tryd.func126, Tryd.ntmps126; go_wp2_with fail; (go_region_with (first | (go_at_call 141; refine (HV.out _ (by repeat (first | with_reducible exact Below.refl _ _ | with_reducible exact HB3.out | with_reducible refine Below.drew ?_ | with_reducible refine below_drewN ?_ _ | with_reducible refine Below.setCell ?_ ?_ _ | with_reducible refine Below.alloc ?_ ?_ _ | with_reducible exact HB2.out | with_reducible exact HB1.out | with_reducible refine Below.trans ?_ (Below.mono hb3 ?_) | with_reducible refine Below.trans ?_ (Below.mono hb5 ?_) | with_reducible refine Below.trans ?_ (Below.mono hb4 ?_) | omega | (simp; omega) | simp)) _ _ (by first | exact HA.out | exact HBv.out)).mono ?_; rintro e w1 ⟨rfl, hb1⟩; obtain ⟨hc1, hf1, hz1⟩ := bcell hb1; have HB1 : Hid (Below w.heap.size w w1) := Below.trans (by repeat (first | with_reducible exact Below.refl _ _ | with_reducible exact HB3.out | with_reducible refine Below.drew ?_ | with_reducible refine below_drewN ?_ _ | with_reducible refine Below.setCell ?_ ?_ _ | with_reducible refine Below.alloc ?_ ?_ _ | with_reducible exact HB2.out | with_reducible exact HB1.out | with_reducible refine Below.trans ?_ (Below.mono hb3 ?_) | with_reducible refine Below.trans ?_ (Below.mono hb5 ?_) | with_reducible refine Below.trans ?_ (Below.mono hb4 ?_) | omega | (simp; omega) | simp)) (hb1.mono (by first | omega | (simp; done) | (simp; omega))); have hzz := HB1.out.size; (try simp at hz1); have hzb : w.heap.size < w1.heap.size := (by omega); obtain ⟨hc2, hf2, _⟩ := bcell HB1.out))))
    all_goals
      go_wp2_with fail
      refine (ctwo_any _ _ _ hop HAi.out _).mono ?_
      rw [HTa.out]
      rintro e w3 ⟨rfl, rfl⟩
      go_wp2_with fail
      refine ((HW.out.mono (by repeat (first | with_reducible exact Below.refl _ _ | with_reducible exact HB3.out | with_reducible refine Below.drew ?_ | with_reducible refine below_drewN ?_ _ | with_reducible refine Below.setCell ?_ ?_ _ | with_reducible refine Below.alloc ?_ ?_ _ | with_reducible exact HB2.out | with_reducible exact HB1.out | with_reducible refine Below.trans ?_ (Below.mono hb3 ?_) | with_reducible refine Below.trans ?_ (Below.mono hb5 ?_) | with_reducible refine Below.trans ?_ (Below.mono hb4 ?_) | omega | (simp; omega) | simp))).stop 2).mono ?_
      rintro e w4 ⟨rfl, h4⟩
      have H4 := hidI h4
      clear h4
      go_wp2_with fail
      go_ret
      exact ⟨by rw [HI.out]; rfl, by rw [HI.out]; exact H4.out⟩
  · (go_enter Tryd.func126, Tryd.ntmps126; go_wp2_with fail; (go_region_with (first | (go_at_call 141; refine (HV.out _ (by repeat (first | with_reducible exact Below.refl _ _ | with_reducible exact HB3.out | with_reducible refine Below.drew ?_ | with_reducible refine below_drewN ?_ _ | with_reducible refine Below.setCell ?_ ?_ _ | with_reducible refine Below.alloc ?_ ?_ _ | with_reducible exact HB2.out | with_reducible exact HB1.out | with_reducible refine Below.trans ?_ (Below.mono hb3 ?_) | with_reducible refine Below.trans ?_ (Below.mono hb5 ?_) | with_reducible refine Below.trans ?_ (Below.mono hb4 ?_) | omega | (simp; omega) | simp)) _ _ (by first | exact HA.out | exact HBv.out)).mono ?_; rintro e w1 ⟨rfl, hb1⟩; obtain ⟨hc1, hf1, hz1⟩ := bcell hb1; have HB1 : Hid (Below w.heap.size w w1) := Below.trans (by repeat (first | with_reducible exact Below.refl _ _ | with_reducible exact HB3.out | with_reducible refine Below.drew ?_ | with_reducible refine below_drewN ?_ _ | with_reducible refine Below.setCell ?_ ?_ _ | with_reducible refine Below.alloc ?_ ?_ _ | with_reducible exact HB2.out | with_reducible exact HB1.out | with_reducible refine Below.trans ?_ (Below.mono hb3 ?_) | with_reducible refine Below.trans ?_ (Below.mono hb5 ?_) | with_reducible refine Below.trans ?_ (Below.mono hb4 ?_) | omega | (simp; omega) | simp)) (hb1.mono (by first | omega | (simp; done) | (simp; omega))); have hzz := HB1.out.size; (try simp at hz1); have hzb : w.heap.size < w1.heap.size := (by omega); obtain ⟨hc2, hf2, _⟩ := bcell HB1.out))))
    all_goals
      go_wp2_with fail
      refine (ctwo_any _ _ _ hop HAi.out _).mono ?_
      rw [HTa.out]
      rintro e w3 ⟨rfl, rfl⟩
      go_wp2_with fail
      refine ((HW.out.mono (by repeat (first | with_reducible exact Below.refl _ _ | with_reducible exact HB3.out | with_reducible refine Below.drew ?_ | with_reducible refine below_drewN ?_ _ | with_reducible refine Below.setCell ?_ ?_ _ | with_reducible refine Below.alloc ?_ ?_ _ | with_reducible exact HB2.out | with_reducible exact HB1.out | with_reducible refine Below.trans ?_ (Below.mono hb3 ?_) | with_reducible refine Below.trans ?_ (Below.mono hb5 ?_) | with_reducible refine Below.trans ?_ (Below.mono hb4 ?_) | omega | (simp; omega) | simp))).set HNE.out dst n HD.out).mono ?_
      rintro e w4 ⟨rfl, h4⟩
      have H4 := hidI h4
      clear h4
      go_wp2_with fail
      go_ret
      exact ⟨by rw [HI.out]; rfl, by rw [HI.out]; exact H4.out⟩
end Go.Proofs.YtdjamkinijhjoaaDoor
