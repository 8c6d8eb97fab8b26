/-
  The contract of the checker's end: what is wrong with the end of a block.
-/
import Derived.RegionTactic
import Derived.BigQuiet
import Derived.Deep.QuietTactic
import Derived.Deep.RegionHeld
import Derived.WalkKit
import Derived.WalkSpells
import Derived.WalkLawsBesides
import Derived.Test.YtdjamkinijhjoaaDoorJRunV
namespace Go.Proofs.YtdjamkinijhjoaaDoor
open Go.RowKit

theorem SliceAt.to {α : Type} {w w' : World} {size : Nat} {R R' : List Value → α → Prop} {p : Option Addr} {xs : List α} (h : SliceAt w size R p xs) (hz : 0 < size) (hb : Below w.heap.size w w') (hR : ∀ cs, ∀ x ∈ xs, R cs x → R' cs x) : SliceAt w' size R' p xs := by
 rcases h with h | ⟨b, o, hp, h⟩
 ·exact .inl h
 ·refine .inr ⟨b, o, hp, fun i hi => ?_⟩
  obtain ⟨cs, hl, hc, hx⟩ := h i hi
  refine ⟨cs, hl, fun j hj => ?_, hR _ _ (List.getElem_mem hi) hx⟩
  have h0 := hc 0 hz
  obtain ⟨v, hv⟩ : ∃ v, cs[0]? = some v := ⟨cs[0]'(by omega), List.getElem?_eq_getElem (by omega)⟩
  rw [hv] at h0
  exact (hb.cell (p := ⟨b, o + i * size + j, none⟩) (lt_of_cell h0 : b < _)).trans (hc j hj)

set_option maxHeartbeats 400000 in
theorem end1_any (n : Int) (B nb b3 : Nat) (b1 : Option Addr) (w : World) (hn : nb ≤ 9223372036854775807) (hc : w.cell? ⟨B, 5, none⟩ = some (.slice b1 nb b3)) :
  Calls Tryd.prog 113 #[.int .i64 n, .pointer (some ⟨B, 0, none⟩)] w fun e w' => e = .returned (.bool (!wthn n 1 ((nb : Int) - 1))) ∧ w = w' := by
 go_enter Tryd.func113, Tryd.ntmps113
 go_wp2_with (go_at_call 34; refine (within_any _ _ _ _).mono ?_; rintro e w1 ⟨rfl, rfl⟩)
 go_ret
 exact ⟨rfl, rfl⟩
theorem end1_tells (B nb b3 : Nat) (b1 : Option Addr) (w : World) (hn : nb ≤ 9223372036854775807) (hc : w.cell? ⟨B, 5, none⟩ = some (.slice b1 nb b3)) :
  Tells 113 (.pointer (some ⟨B, 0, none⟩)) w fun n => !wthn n 1 ((nb : Int) - 1) := by
 intro w1 x hb
 refine (end1_any x B nb b3 b1 w1 hn ((hb.cell (p := ⟨B, 5, none⟩) (lt_of_cell hc)).trans hc)).mono ?_
 rintro e w2 ⟨rfl, rfl⟩
 exact ⟨rfl, Below.refl _ _⟩

def endE (regs : Int) (nb : Nat) (kind : Int) (r : Bool) (n : Int) (to : List Int) : Int :=
 if ¬(1 ≤ kind ∧ kind ≤ 3) then 4
 else if (to.length : Int) ≠ kind - 1 then 9
 else if to.any (fun t => !wthn t 1 ((nb : Int) - 1)) then 3
 else if kind = 3 ∧ to.getD 0 0 = to.getD 1 0 ∨ kind = 2 ∧ ¬(r = false ∧ n = 0) then 5
 else valE regs r n

def Ways (w : World) : Prop := w.cell? ⟨1, 0, none⟩ = some (.int .i64 0) ∧ w.cell? ⟨1, 1, none⟩ = some (.int .i64 0) ∧ w.cell? ⟨1, 2, none⟩ = some (.int .i64 1) ∧ w.cell? ⟨1, 3, none⟩ = some (.int .i64 2)

set_option maxRecDepth 100000 in
set_option maxHeartbeats 1000000 in
theorem end_bad (g1 f1 b1 a1 tp : Option Addr) (g2 g3 f2 f3 nb b3 a2 a3 tc : Nat) (nm : ByteArray) (params regs kind n : Int) (r : Bool) (to : List Int) (w : World) (h : ¬(1 ≤ kind ∧ kind ≤ 3)) :
  Calls Tryd.prog 69 #[.agg #[.slice g1 g2 g3, .slice f1 f2 f3, .string nm, .int .i64 params, .int .i64 regs, .slice b1 nb b3, .slice a1 a2 a3], .agg #[.int .i64 kind, .bool r, .int .i64 n, .slice tp to.length tc]] w fun e w' => e = .returned (.int .i64 (endE regs nb kind r n to)) ∧ Below w.heap.size w w' := by
 have hw : wthn kind 1 3 = false := by simp only [wthn, decide_eq_false_iff_not]; exact h
 have HV : Hid (endE regs nb kind r n to = 4) := by show _ = _; unfold endE; rw [if_pos h]
 clear h
 go_enter Tryd.func69, Tryd.ntmps69
 go_wp2_with (go_at_call 34; refine (within_any _ _ _ _).mono ?_; rintro e w1 ⟨rfl, rfl⟩)
 go_ret
 refine ⟨by rw [HV.out]; rfl, ?_⟩
 repeat (first | (with_reducible first | exact bR _ _ | exact bH ‹_› | refine bD ?_ | refine bN ?_ _ | refine bS ?_ ?_ _ | refine bA ?_ ?_ _ | refine bT hb3 ?_ ?_ | refine bT hb5 ?_ ?_ | refine bT hb4 ?_ ?_) | omega | (simp; omega) | simp)

set_option maxRecDepth 100000 in
set_option maxHeartbeats 1000000 in
theorem end_len (g1 f1 b1 a1 tp : Option Addr) (g2 g3 f2 f3 nb b3 a2 a3 tc : Nat) (nm : ByteArray) (params regs kind n : Int) (r : Bool) (to : List Int) (w : World) (hk : kind = 1 ∨ kind = 2 ∨ kind = 3) (h : (to.length : Int) ≠ kind - 1)
  (hl : to.length ≤ 9223372036854775807) (hw0 : Ways w) :
  Calls Tryd.prog 69 #[.agg #[.slice g1 g2 g3, .slice f1 f2 f3, .string nm, .int .i64 params, .int .i64 regs, .slice b1 nb b3, .slice a1 a2 a3], .agg #[.int .i64 kind, .bool r, .int .i64 n, .slice tp to.length tc]] w fun e w' => e = .returned (.int .i64 (endE regs nb kind r n to)) ∧ Below w.heap.size w w' := by
 have HV : Hid (endE regs nb kind r n to = 9) := by show _ = _; unfold endE; rw [if_neg (by omega), if_pos h]
 obtain ⟨_, q1, q2, q3⟩ := hw0
 have hsz := lt_of_cell q1
 have hsz1 : 1 < w.heap.size + 1 := by omega
 generalize to.length = m at *
 have hw1 : wthn 1 1 3 = true := rfl
 have hw2 : wthn 2 1 3 = true := rfl
 have hw3 : wthn 3 1 3 = true := rfl
 have hm1 : Hid ((m : Int) ≠ kind - 1) := h
 rcases hk with rfl | rfl | rfl
 all_goals
  have hb := bne_iff_ne.2 hm1.out
  simp only [Int.reduceSub] at hb
  clear h
  go_enter Tryd.func69, Tryd.ntmps69
  go_wp2_with (go_at_call 34; refine (within_any _ _ _ _).mono ?_; rintro e w1 ⟨rfl, rfl⟩)
  go_quiet (fail)
  go_wp2
  go_ret
  refine ⟨by rw [HV.out]; rfl, ?_⟩
  repeat (first | (with_reducible first | exact bR _ _ | exact bH ‹_› | refine bD ?_ | refine bN ?_ _ | refine bS ?_ ?_ _ | refine bA ?_ ?_ _ | refine bT hb3 ?_ ?_ | refine bT hb5 ?_ ?_ | refine bT hb4 ?_ ?_) | omega | (simp; omega) | simp)
set_option maxRecDepth 100000 in
set_option maxHeartbeats 1000000 in
theorem end_kind1 (g1 f1 b1 a1 tp : Option Addr) (g2 g3 f2 f3 nb b3 a2 a3 tc : Nat) (nm : ByteArray) (params regs n : Int) (r : Bool) (w : World)
  (hr1 : 0 ≤ regs) (hr2 : regs ≤ 9223372036854775807) (hn : nb ≤ 9223372036854775807) (hto : SliceAt w 1 IntR tp []) (hw0 : Ways w) :
  Calls Tryd.prog 69 #[.agg #[.slice g1 g2 g3, .slice f1 f2 f3, .string nm, .int .i64 params, .int .i64 regs, .slice b1 nb b3, .slice a1 a2 a3], .agg #[.int .i64 1, .bool r, .int .i64 n, .slice tp 0 tc]] w fun e w' => e = .returned (.int .i64 (endE regs nb 1 r n [])) ∧ Below w.heap.size w w' := by
 obtain ⟨_, q1, q2, q3⟩ := hw0
 have hsz := lt_of_cell q1
 have hsz1 : 1 < w.heap.size + 1 := by omega
 have hw1 : wthn 1 1 3 = true := rfl
 have hw2 : wthn 2 1 3 = true := rfl
 have hw3 : wthn 3 1 3 = true := rfl
 have HT : Hid (SliceAt w 1 IntR tp []) := hto
 have HN : Hid (nb ≤ 9223372036854775807) := hn
 have hany : ([] : List Int).any (fun n => !wthn n 1 ((nb : Int) - 1)) = false := rfl
 have HV : Hid (endE regs nb 1 r n [] = valE regs r n) := by show _ = _; simp [endE]
 clear hto hn
 go_enter Tryd.func69, Tryd.ntmps69
 go_wp2_with (go_at_call 34; refine (within_any _ _ _ _).mono ?_; rintro e w1 ⟨rfl, rfl⟩)
 go_quiet (fail)
 go_wp2_with fail
 refine (containsFunc_end _ (fun n => !wthn n 1 ((nb : Int) - 1)) tp tc [] _ (by simp) (HT.out.to (by decide) ?_ (fun _ _ _ h => h)) (end1_tells w.heap.size nb b3 b1 _ HN.out (by first | rfl | (simp; done) | (simp [World.cell?_alloc_some, *]; done)))).mono ?_
 ·repeat (first | (with_reducible first | exact bR _ _ | exact bH ‹_› | refine bD ?_ | refine bN ?_ _ | refine bS ?_ ?_ _ | refine bA ?_ ?_ _ | refine bT hb3 ?_ ?_ | refine bT hb5 ?_ ?_ | refine bT hb4 ?_ ?_) | omega | (simp; omega) | simp)
 rw [hany]
 rintro e w3 ⟨rfl, hb3⟩
 obtain ⟨hc3, hf3, hz3⟩ := bcell hb3
 simp at hz3
 have hz4 : w.heap.size < w3.heap.size := by omega
 have hz5 : w.heap.size + 1 < w3.heap.size := by omega
 go_wp2
 go_quiet (fail)
 go_wp2_with fail
 refine (val_any _ _ _ _ _ _ _ _ _ _ _ _ _ _ _ _ _ _ hr1 hr2).mono ?_
 rintro e w4 ⟨rfl, hb4⟩
 go_wp2
 go_ret
 refine ⟨by rw [HV.out]; rfl, ?_⟩
 repeat (first | (with_reducible first | exact bR _ _ | exact bH ‹_› | refine bD ?_ | refine bN ?_ _ | refine bS ?_ ?_ _ | refine bA ?_ ?_ _ | refine bT hb3 ?_ ?_ | refine bT hb5 ?_ ?_ | refine bT hb4 ?_ ?_) | omega | (simp; omega) | simp)
set_option maxRecDepth 100000 in
set_option maxHeartbeats 1000000 in
theorem end_kind2 (g1 f1 b1 a1 tp : Option Addr) (g2 g3 f2 f3 nb b3 a2 a3 tc : Nat) (nm : ByteArray) (params regs n : Int) (r : Bool) (t : Int) (w : World)
  (hr1 : 0 ≤ regs) (hr2 : regs ≤ 9223372036854775807) (hn : nb ≤ 9223372036854775807) (hto : SliceAt w 1 IntR tp [t]) (hw0 : Ways w) :
  Calls Tryd.prog 69 #[.agg #[.slice g1 g2 g3, .slice f1 f2 f3, .string nm, .int .i64 params, .int .i64 regs, .slice b1 nb b3, .slice a1 a2 a3], .agg #[.int .i64 2, .bool r, .int .i64 n, .slice tp 1 tc]] w fun e w' => e = .returned (.int .i64 (endE regs nb 2 r n [t])) ∧ Below w.heap.size w w' := by
 obtain ⟨_, q1, q2, q3⟩ := hw0
 have hsz := lt_of_cell q1
 have hsz1 : 1 < w.heap.size + 1 := by omega
 have hw1 : wthn 1 1 3 = true := rfl
 have hw2 : wthn 2 1 3 = true := rfl
 have hw3 : wthn 3 1 3 = true := rfl
 have HT : Hid (SliceAt w 1 IntR tp [t]) := hto
 have HN : Hid (nb ≤ 9223372036854775807) := hn
 clear hto hn
 by_cases ht : wthn t 1 ((nb : Int) - 1) = true
 ·have hany : [t].any (fun n => !wthn n 1 ((nb : Int) - 1)) = false := by simp [ht]
  by_cases hv : r = false ∧ n = 0
  ·obtain ⟨rfl, rfl⟩ := hv
   have HV : Hid (endE regs nb 2 false 0 [t] = valE regs false 0) := by show _ = _; simp [endE, ht]
   clear ht
   go_enter Tryd.func69, Tryd.ntmps69
   go_wp2_with (go_at_call 34; refine (within_any _ _ _ _).mono ?_; rintro e w1 ⟨rfl, rfl⟩)
   go_quiet (fail)
   go_wp2_with fail
   refine (containsFunc_end _ (fun n => !wthn n 1 ((nb : Int) - 1)) tp tc [t] _ (by simp) (HT.out.to (by decide) ?_ (fun _ _ _ h => h)) (end1_tells w.heap.size nb b3 b1 _ HN.out (by first | rfl | (simp; done) | (simp [World.cell?_alloc_some, *]; done)))).mono ?_
   ·repeat (first | (with_reducible first | exact bR _ _ | exact bH ‹_› | refine bD ?_ | refine bN ?_ _ | refine bS ?_ ?_ _ | refine bA ?_ ?_ _ | refine bT hb3 ?_ ?_ | refine bT hb5 ?_ ?_ | refine bT hb4 ?_ ?_) | omega | (simp; omega) | simp)
   rw [hany]
   rintro e w3 ⟨rfl, hb3⟩
   obtain ⟨hc3, hf3, hz3⟩ := bcell hb3
   simp at hz3
   have hz4 : w.heap.size < w3.heap.size := by omega
   have hz5 : w.heap.size + 1 < w3.heap.size := by omega
   go_wp2
   go_quiet (fail)
   go_wp2_with fail
   refine (val_any _ _ _ _ _ _ _ _ _ _ _ _ _ _ _ _ _ _ hr1 hr2).mono ?_
   rintro e w4 ⟨rfl, hb4⟩
   go_wp2
   go_ret
   refine ⟨by rw [HV.out]; rfl, ?_⟩
   repeat (first | (with_reducible first | exact bR _ _ | exact bH ‹_› | refine bD ?_ | refine bN ?_ _ | refine bS ?_ ?_ _ | refine bA ?_ ?_ _ | refine bT hb3 ?_ ?_ | refine bT hb5 ?_ ?_ | refine bT hb4 ?_ ?_) | omega | (simp; omega) | simp)
  ·have HV : Hid (endE regs nb 2 r n [t] = 5) := by show _ = _; simp only [endE]; rw [if_neg (by omega), if_neg (by simp), hany]; simp; intro h1 h2; exact absurd ⟨h1, h2⟩ hv
   have he : ∀ w : World, (binOp .neq 45 (.agg #[.bool r, .int .i64 n]) (.agg #[.bool false, .int .i64 0])).run Tryd.prog w = .ok (.bool true) w := fun w => by
    rw [run_neVal]
    cases r
    ·have hn0 : n ≠ 0 := fun h => hv ⟨rfl, h⟩
     simp [hn0]
    ·simp
   clear ht hv
   go_enter Tryd.func69, Tryd.ntmps69
   go_wp2_with (go_at_call 34; refine (within_any _ _ _ _).mono ?_; rintro e w1 ⟨rfl, rfl⟩)
   go_quiet (fail)
   go_wp2_with fail
   refine (containsFunc_end _ (fun n => !wthn n 1 ((nb : Int) - 1)) tp tc [t] _ (by simp) (HT.out.to (by decide) ?_ (fun _ _ _ h => h)) (end1_tells w.heap.size nb b3 b1 _ HN.out (by first | rfl | (simp; done) | (simp [World.cell?_alloc_some, *]; done)))).mono ?_
   ·repeat (first | (with_reducible first | exact bR _ _ | exact bH ‹_› | refine bD ?_ | refine bN ?_ _ | refine bS ?_ ?_ _ | refine bA ?_ ?_ _ | refine bT hb3 ?_ ?_ | refine bT hb5 ?_ ?_ | refine bT hb4 ?_ ?_) | omega | (simp; omega) | simp)
   rw [hany]
   rintro e w3 ⟨rfl, hb3⟩
   obtain ⟨hc3, hf3, hz3⟩ := bcell hb3
   simp at hz3
   have hz4 : w.heap.size < w3.heap.size := by omega
   have hz5 : w.heap.size + 1 < w3.heap.size := by omega
   go_wp2
   go_quiet (fail)
   go_wp2
   go_ret
   refine ⟨by rw [HV.out]; rfl, ?_⟩
   repeat (first | (with_reducible first | exact bR _ _ | exact bH ‹_› | refine bD ?_ | refine bN ?_ _ | refine bS ?_ ?_ _ | refine bA ?_ ?_ _ | refine bT hb3 ?_ ?_ | refine bT hb5 ?_ ?_ | refine bT hb4 ?_ ?_) | omega | (simp; omega) | simp)
 ·have hany : [t].any (fun n => !wthn n 1 ((nb : Int) - 1)) = true := by simp [ht]
  have HV : Hid (endE regs nb 2 r n [t] = 3) := by show _ = _; simp only [endE]; rw [if_neg (by omega), if_neg (by simp), hany, if_pos rfl]
  clear ht
  go_enter Tryd.func69, Tryd.ntmps69
  go_wp2_with (go_at_call 34; refine (within_any _ _ _ _).mono ?_; rintro e w1 ⟨rfl, rfl⟩)
  go_quiet (fail)
  go_wp2_with fail
  refine (containsFunc_end _ (fun n => !wthn n 1 ((nb : Int) - 1)) tp tc [t] _ (by simp) (HT.out.to (by decide) ?_ (fun _ _ _ h => h)) (end1_tells w.heap.size nb b3 b1 _ HN.out (by first | rfl | (simp; done) | (simp [World.cell?_alloc_some, *]; done)))).mono ?_
  ·repeat (first | (with_reducible first | exact bR _ _ | exact bH ‹_› | refine bD ?_ | refine bN ?_ _ | refine bS ?_ ?_ _ | refine bA ?_ ?_ _ | refine bT hb3 ?_ ?_ | refine bT hb5 ?_ ?_ | refine bT hb4 ?_ ?_) | omega | (simp; omega) | simp)
  rw [hany]
  rintro e w3 ⟨rfl, hb3⟩
  obtain ⟨hc3, hf3, hz3⟩ := bcell hb3
  simp at hz3
  have hz4 : w.heap.size < w3.heap.size := by omega
  have hz5 : w.heap.size + 1 < w3.heap.size := by omega
  go_wp2
  go_ret
  refine ⟨by rw [HV.out]; rfl, ?_⟩
  repeat (first | (with_reducible first | exact bR _ _ | exact bH ‹_› | refine bD ?_ | refine bN ?_ _ | refine bS ?_ ?_ _ | refine bA ?_ ?_ _ | refine bT hb3 ?_ ?_ | refine bT hb5 ?_ ?_ | refine bT hb4 ?_ ?_) | omega | (simp; omega) | simp)
set_option maxRecDepth 100000 in
set_option maxHeartbeats 1000000 in
theorem end_kind3 (g1 f1 b1 a1 tp : Option Addr) (g2 g3 f2 f3 nb b3 a2 a3 tc : Nat) (nm : ByteArray) (params regs n : Int) (r : Bool) (t u : Int) (w : World)
  (hr1 : 0 ≤ regs) (hr2 : regs ≤ 9223372036854775807) (hn : nb ≤ 9223372036854775807) (hto : SliceAt w 1 IntR tp [t, u]) (hw0 : Ways w) :
  Calls Tryd.prog 69 #[.agg #[.slice g1 g2 g3, .slice f1 f2 f3, .string nm, .int .i64 params, .int .i64 regs, .slice b1 nb b3, .slice a1 a2 a3], .agg #[.int .i64 3, .bool r, .int .i64 n, .slice tp 2 tc]] w fun e w' => e = .returned (.int .i64 (endE regs nb 3 r n [t, u])) ∧ Below w.heap.size w w' := by
 obtain ⟨_, q1, q2, q3⟩ := hw0
 have hsz := lt_of_cell q1
 have hsz1 : 1 < w.heap.size + 1 := by omega
 have hw1 : wthn 1 1 3 = true := rfl
 have hw2 : wthn 2 1 3 = true := rfl
 have hw3 : wthn 3 1 3 = true := rfl
 have HT : Hid (SliceAt w 1 IntR tp [t, u]) := hto
 have HN : Hid (nb ≤ 9223372036854775807) := hn
 obtain ⟨bt, ot, rfl, q4, q5⟩ : ∃ b o, tp = some ⟨b, o, none⟩ ∧ w.cell? ⟨b, o, none⟩ = some (.int .i64 t) ∧ w.cell? ⟨b, o + 1, none⟩ = some (.int .i64 u) := by
  rcases hto with h | ⟨b, o, rfl, h⟩
  ·simp at h
  ·obtain ⟨cs, _, h0, rfl, _⟩ := h 0 (by simp)
   obtain ⟨cs', _, h1, rfl, _⟩ := h 1 (by simp)
   exact ⟨b, o, rfl, by simpa using h0 0 (by simp), by simpa using h1 0 (by simp)⟩
 have hst := lt_of_cell q4
 have hst1 : bt < w.heap.size + 1 := by omega
 have hst2 : bt < w.heap.size + 1 + 1 := by omega
 clear hto hn
 by_cases ht : wthn t 1 ((nb : Int) - 1) = true ∧ wthn u 1 ((nb : Int) - 1) = true
 ·have hany : [t, u].any (fun n => !wthn n 1 ((nb : Int) - 1)) = false := by simp [ht]
  by_cases hv : t = u
  ·subst hv
   have HV : Hid (endE regs nb 3 r n [t, t] = 5) := by show _ = _; simp only [endE]; rw [if_neg (by omega), if_neg (by simp), hany]; simp
   clear ht
   go_enter Tryd.func69, Tryd.ntmps69
   go_wp2_with (go_at_call 34; refine (within_any _ _ _ _).mono ?_; rintro e w1 ⟨rfl, rfl⟩)
   go_quiet (fail)
   go_wp2_with fail
   refine (containsFunc_end _ (fun n => !wthn n 1 ((nb : Int) - 1)) (some ⟨bt, ot, none⟩) tc [t, t] _ (by simp) (HT.out.to (by decide) ?_ (fun _ _ _ h => h)) (end1_tells w.heap.size nb b3 b1 _ HN.out (by first | rfl | (simp; done) | (simp [World.cell?_alloc_some, *]; done)))).mono ?_
   ·repeat (first | (with_reducible first | exact bR _ _ | exact bH ‹_› | refine bD ?_ | refine bN ?_ _ | refine bS ?_ ?_ _ | refine bA ?_ ?_ _ | refine bT hb3 ?_ ?_ | refine bT hb5 ?_ ?_ | refine bT hb4 ?_ ?_) | omega | (simp; omega) | simp)
   rw [hany]
   rintro e w3 ⟨rfl, hb3⟩
   obtain ⟨hc3, hf3, hz3⟩ := bcell hb3
   simp at hz3
   have hz4 : w.heap.size < w3.heap.size := by omega
   have hz5 : w.heap.size + 1 < w3.heap.size := by omega
   go_wp2
   go_quiet (fail)
   go_wp2
   go_ret
   refine ⟨by rw [HV.out]; rfl, ?_⟩
   repeat (first | (with_reducible first | exact bR _ _ | exact bH ‹_› | refine bD ?_ | refine bN ?_ _ | refine bS ?_ ?_ _ | refine bA ?_ ?_ _ | refine bT hb3 ?_ ?_ | refine bT hb5 ?_ ?_ | refine bT hb4 ?_ ?_) | omega | (simp; omega) | simp)
  ·have HV : Hid (endE regs nb 3 r n [t, u] = valE regs r n) := by show _ = _; simp only [endE]; rw [if_neg (by omega), if_neg (by simp), hany]; simp [hv]
   have hvb : (t == u) = false := by simp [hv]
   clear ht
   go_enter Tryd.func69, Tryd.ntmps69
   go_wp2_with (go_at_call 34; refine (within_any _ _ _ _).mono ?_; rintro e w1 ⟨rfl, rfl⟩)
   go_quiet (fail)
   go_wp2_with fail
   refine (containsFunc_end _ (fun n => !wthn n 1 ((nb : Int) - 1)) (some ⟨bt, ot, none⟩) tc [t, u] _ (by simp) (HT.out.to (by decide) ?_ (fun _ _ _ h => h)) (end1_tells w.heap.size nb b3 b1 _ HN.out (by first | rfl | (simp; done) | (simp [World.cell?_alloc_some, *]; done)))).mono ?_
   ·repeat (first | (with_reducible first | exact bR _ _ | exact bH ‹_› | refine bD ?_ | refine bN ?_ _ | refine bS ?_ ?_ _ | refine bA ?_ ?_ _ | refine bT hb3 ?_ ?_ | refine bT hb5 ?_ ?_ | refine bT hb4 ?_ ?_) | omega | (simp; omega) | simp)
   rw [hany]
   rintro e w3 ⟨rfl, hb3⟩
   obtain ⟨hc3, hf3, hz3⟩ := bcell hb3
   simp at hz3
   have hz4 : w.heap.size < w3.heap.size := by omega
   have hz5 : w.heap.size + 1 < w3.heap.size := by omega
   go_wp2
   go_quiet (fail)
   go_wp2_with fail
   refine (val_any _ _ _ _ _ _ _ _ _ _ _ _ _ _ _ _ _ _ hr1 hr2).mono ?_
   rintro e w4 ⟨rfl, hb4⟩
   go_wp2
   go_ret
   refine ⟨by rw [HV.out]; rfl, ?_⟩
   repeat (first | (with_reducible first | exact bR _ _ | exact bH ‹_› | refine bD ?_ | refine bN ?_ _ | refine bS ?_ ?_ _ | refine bA ?_ ?_ _ | refine bT hb3 ?_ ?_ | refine bT hb5 ?_ ?_ | refine bT hb4 ?_ ?_) | omega | (simp; omega) | simp)
 ·have hany : [t, u].any (fun n => !wthn n 1 ((nb : Int) - 1)) = true := by simp only [List.any, Bool.or_false]; cases h1 : wthn t 1 ((nb : Int) - 1) <;> cases h2 : wthn u 1 ((nb : Int) - 1) <;> simp_all
  have HV : Hid (endE regs nb 3 r n [t, u] = 3) := by show _ = _; simp only [endE]; rw [if_neg (by omega), if_neg (by simp), hany, if_pos rfl]
  clear ht
  go_enter Tryd.func69, Tryd.ntmps69
  go_wp2_with (go_at_call 34; refine (within_any _ _ _ _).mono ?_; rintro e w1 ⟨rfl, rfl⟩)
  go_quiet (fail)
  go_wp2_with fail
  refine (containsFunc_end _ (fun n => !wthn n 1 ((nb : Int) - 1)) (some ⟨bt, ot, none⟩) tc [t, u] _ (by simp) (HT.out.to (by decide) ?_ (fun _ _ _ h => h)) (end1_tells w.heap.size nb b3 b1 _ HN.out (by first | rfl | (simp; done) | (simp [World.cell?_alloc_some, *]; done)))).mono ?_
  ·repeat (first | (with_reducible first | exact bR _ _ | exact bH ‹_› | refine bD ?_ | refine bN ?_ _ | refine bS ?_ ?_ _ | refine bA ?_ ?_ _ | refine bT hb3 ?_ ?_ | refine bT hb5 ?_ ?_ | refine bT hb4 ?_ ?_) | omega | (simp; omega) | simp)
  rw [hany]
  rintro e w3 ⟨rfl, hb3⟩
  obtain ⟨hc3, hf3, hz3⟩ := bcell hb3
  simp at hz3
  have hz4 : w.heap.size < w3.heap.size := by omega
  have hz5 : w.heap.size + 1 < w3.heap.size := by omega
  go_wp2
  go_ret
  refine ⟨by rw [HV.out]; rfl, ?_⟩
  repeat (first | (with_reducible first | exact bR _ _ | exact bH ‹_› | refine bD ?_ | refine bN ?_ _ | refine bS ?_ ?_ _ | refine bA ?_ ?_ _ | refine bT hb3 ?_ ?_ | refine bT hb5 ?_ ?_ | refine bT hb4 ?_ ?_) | omega | (simp; omega) | simp)
theorem end_any (g1 f1 b1 a1 tp : Option Addr) (g2 g3 f2 f3 nb b3 a2 a3 tc : Nat) (nm : ByteArray) (params regs kind n : Int) (r : Bool) (to : List Int) (w : World)
  (hr1 : 0 ≤ regs) (hr2 : regs ≤ 9223372036854775807) (hn : nb ≤ 9223372036854775807) (hl : to.length ≤ 9223372036854775807) (hto : SliceAt w 1 IntR tp to) (hw0 : Ways w) :
  Calls Tryd.prog 69 #[.agg #[.slice g1 g2 g3, .slice f1 f2 f3, .string nm, .int .i64 params, .int .i64 regs, .slice b1 nb b3, .slice a1 a2 a3], .agg #[.int .i64 kind, .bool r, .int .i64 n, .slice tp to.length tc]] w fun e w' => e = .returned (.int .i64 (endE regs nb kind r n to)) ∧ Below w.heap.size w w' := by
 by_cases hk : 1 ≤ kind ∧ kind ≤ 3
 ·by_cases hlen : (to.length : Int) = kind - 1
  ·obtain rfl | rfl | rfl : kind = 1 ∨ kind = 2 ∨ kind = 3 := by omega
   ·obtain rfl : to = [] := List.length_eq_zero_iff.1 (by omega)
    exact end_kind1 _ _ _ _ _ _ _ _ _ _ _ _ _ _ _ _ _ _ _ _ hr1 hr2 hn hto hw0
   ·obtain ⟨t, rfl⟩ : ∃ t, to = [t] := List.length_eq_one_iff.1 (by omega)
    exact end_kind2 _ _ _ _ _ _ _ _ _ _ _ _ _ _ _ _ _ _ _ _ _ hr1 hr2 hn hto hw0
   ·obtain ⟨t, u, rfl⟩ : ∃ t u, to = [t, u] := by
     match to, hlen with
     | [t, u], _ => exact ⟨t, u, rfl⟩
     | [], h => simp at h
     | [_], h => simp at h
     | _ :: _ :: _ :: _, h => simp at h; omega
    exact end_kind3 _ _ _ _ _ _ _ _ _ _ _ _ _ _ _ _ _ _ _ _ _ _ hr1 hr2 hn hto hw0
  ·exact end_len _ _ _ _ _ _ _ _ _ _ _ _ _ _ _ _ _ _ _ _ _ _ (by omega) hlen hl hw0
 ·exact end_bad _ _ _ _ _ _ _ _ _ _ _ _ _ _ _ _ _ _ _ _ _ _ hk
end Go.Proofs.YtdjamkinijhjoaaDoor
