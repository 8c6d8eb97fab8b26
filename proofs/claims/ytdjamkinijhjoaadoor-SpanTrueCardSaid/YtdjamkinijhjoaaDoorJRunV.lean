/-
  The contracts of the small functions that code.Check reaches: core.Within, core.Fault, the checker's val and dst, core.Name.
  The contracts of slices.IndexFunc and slices.ContainsFunc on numbers, with a closure that tells something of a number.
  Runs of == and != on two values, on two faults.
-/
import Derived.WalkKit
import Derived.WalkSpells
import Derived.WalkLawsBesides
import Derived.Test.YtdjamkinijhjoaaDoorJDatC
namespace Go.Proofs.YtdjamkinijhjoaaDoor
open Go.RowKit

def wthn (n lo hi : Int) : Bool := decide (lo ≤ n ∧ n ≤ hi)
set_option maxHeartbeats 400000 in
theorem within_any (n lo hi : Int) (w : World) :
  Calls Tryd.prog 34 #[.int .i64 n, .int .i64 lo, .int .i64 hi] w fun e w' => e = .returned (.bool (wthn n lo hi)) ∧ w = w' := by
 by_cases h1 : lo ≤ n
 ·by_cases h2 : n ≤ hi
  all_goals
   go_enter Tryd.func34, Tryd.ntmps34
   go_wp2
   go_ret
   exact ⟨by simp [wthn]; omega, rfl⟩
 ·go_enter Tryd.func34, Tryd.ntmps34
  go_wp2
  go_ret
  exact ⟨by simp [wthn]; omega, rfl⟩
set_option maxHeartbeats 400000 in
theorem cfault_any (c a : Int) (w : World) :
  Calls Tryd.prog 24 #[.int .i64 c, .int .i64 a] w fun e w' => e = .returned (.agg #[.int .i64 c, .int .i64 a]) ∧ w' = w.alloc (.cells #[.int .i64 c, .int .i64 a] 28) := by
 go_enter Tryd.func24, Tryd.ntmps24
 go_wp2
 refine bodyPost_ret ?_ rfl ⟨rfl, rfl⟩
 simp [results, Tryd.results24, go_sem]

def valE (regs : Int) (r : Bool) (n : Int) : Int := if r = true ∧ ¬(0 ≤ n ∧ n ≤ regs - 1) then 3 else 0
def dstE (regs n : Int) : Int := if 0 ≤ n ∧ n ≤ regs - 1 then 0 else 3

set_option maxHeartbeats 400000 in
theorem val_any (g1 f1 b1 a1 : Option Addr) (g2 g3 f2 f3 b2 b3 a2 a3 : Nat) (nm : ByteArray) (params regs n : Int) (r : Bool) (w : World) (h1 : 0 ≤ regs) (h2 : regs ≤ 9223372036854775807) :
  Calls Tryd.prog 114 #[.agg #[.slice g1 g2 g3, .slice f1 f2 f3, .string nm, .int .i64 params, .int .i64 regs, .slice b1 b2 b3, .slice a1 a2 a3], .agg #[.bool r, .int .i64 n]] w fun e w' => e = .returned (.int .i64 (valE regs r n)) ∧ Below w.heap.size w w' := by
 cases r
 ·go_enter Tryd.func114, Tryd.ntmps114
  go_wp2
  go_ret
  exact ⟨rfl, by repeat (first | (with_reducible first | exact bR _ _ | exact bH ‹_› | refine bD ?_ | refine bN ?_ _ | refine bS ?_ ?_ _ | refine bA ?_ ?_ _ | refine bT hb3 ?_ ?_ | refine bT hb5 ?_ ?_ | refine bT hb4 ?_ ?_) | omega | (simp; omega) | simp)⟩
 ·by_cases h : 0 ≤ n ∧ n ≤ regs - 1
  ·have hw : wthn n 0 (regs - 1) = true := by simp [wthn]; omega
   have HV : Hid (valE regs true n = 0) := by show _ = _; unfold valE; rw [if_neg (by simp; omega)]
   go_enter Tryd.func114, Tryd.ntmps114
   go_wp2_with (go_at_call 34; refine (within_any _ _ _ _).mono ?_; rintro e w1 ⟨rfl, rfl⟩)
   go_ret
   refine ⟨by rw [HV.out]; rfl, ?_⟩
   repeat (first | (with_reducible first | exact bR _ _ | exact bH ‹_› | refine bD ?_ | refine bN ?_ _ | refine bS ?_ ?_ _ | refine bA ?_ ?_ _ | refine bT hb3 ?_ ?_ | refine bT hb5 ?_ ?_ | refine bT hb4 ?_ ?_) | omega | (simp; omega) | simp)
  ·have hw : wthn n 0 (regs - 1) = false := by simp only [wthn, decide_eq_false_iff_not]; exact h
   have HV : Hid (valE regs true n = 3) := by show _ = _; unfold valE; rw [if_pos ⟨rfl, h⟩]
   clear h
   go_enter Tryd.func114, Tryd.ntmps114
   go_wp2_with (go_at_call 34; refine (within_any _ _ _ _).mono ?_; rintro e w1 ⟨rfl, rfl⟩)
   go_ret
   refine ⟨by rw [HV.out]; rfl, ?_⟩
   repeat (first | (with_reducible first | exact bR _ _ | exact bH ‹_› | refine bD ?_ | refine bN ?_ _ | refine bS ?_ ?_ _ | refine bA ?_ ?_ _ | refine bT hb3 ?_ ?_ | refine bT hb5 ?_ ?_ | refine bT hb4 ?_ ?_) | omega | (simp; omega) | simp)
set_option maxHeartbeats 400000 in
theorem dst_any (g1 f1 b1 a1 : Option Addr) (g2 g3 f2 f3 b2 b3 a2 a3 : Nat) (nm : ByteArray) (params regs n : Int) (w : World) (h1 : 0 ≤ regs) (h2 : regs ≤ 9223372036854775807) :
  Calls Tryd.prog 115 #[.agg #[.slice g1 g2 g3, .slice f1 f2 f3, .string nm, .int .i64 params, .int .i64 regs, .slice b1 b2 b3, .slice a1 a2 a3], .int .i64 n] w fun e w' => e = .returned (.int .i64 (dstE regs n)) ∧ Below w.heap.size w w' := by
 by_cases h : 0 ≤ n ∧ n ≤ regs - 1
 ·have hw : wthn n 0 (regs - 1) = true := by simp [wthn]; omega
  have HV : Hid (dstE regs n = 0) := by show _ = _; unfold dstE; rw [if_pos h]
  go_enter Tryd.func115, Tryd.ntmps115
  go_wp2_with (go_at_call 34; refine (within_any _ _ _ _).mono ?_; rintro e w1 ⟨rfl, rfl⟩)
  go_ret
  refine ⟨by rw [HV.out]; rfl, ?_⟩
  repeat (first | (with_reducible first | exact bR _ _ | exact bH ‹_› | refine bD ?_ | refine bN ?_ _ | refine bS ?_ ?_ _ | refine bA ?_ ?_ _ | refine bT hb3 ?_ ?_ | refine bT hb5 ?_ ?_ | refine bT hb4 ?_ ?_) | omega | (simp; omega) | simp)
 ·have hw : wthn n 0 (regs - 1) = false := by simp only [wthn, decide_eq_false_iff_not]; exact h
  have HV : Hid (dstE regs n = 3) := by show _ = _; unfold dstE; rw [if_neg h]
  clear h
  go_enter Tryd.func115, Tryd.ntmps115
  go_wp2_with (go_at_call 34; refine (within_any _ _ _ _).mono ?_; rintro e w1 ⟨rfl, rfl⟩)
  go_ret
  refine ⟨by rw [HV.out]; rfl, ?_⟩
  repeat (first | (with_reducible first | exact bR _ _ | exact bH ‹_› | refine bD ?_ | refine bN ?_ _ | refine bS ?_ ?_ _ | refine bA ?_ ?_ _ | refine bT hb3 ?_ ?_ | refine bT hb5 ?_ ?_ | refine bT hb4 ?_ ?_) | omega | (simp; omega) | simp)

def nameC (c : Int) (first : Bool) : Bool := (decide (97 ≤ c) && decide (c ≤ 122)) || (decide (65 ≤ c) && decide (c ≤ 90)) || c == 95 || (!first && (decide (48 ≤ c) && decide (c ≤ 57)))
theorem nameC_iff (c : Int) (f : Bool) : nameC c f = true ↔ (97 ≤ c ∧ c ≤ 122) ∨ (65 ≤ c ∧ c ≤ 90) ∨ c = 95 ∨ (f = false ∧ 48 ≤ c ∧ c ≤ 57) := by
 unfold nameC
 cases f <;> simp [or_assoc]
def nameB (s : ByteArray) : Bool := decide (1 ≤ s.size ∧ s.size ≤ 12 ∧ ∀ i (h : i < s.size), nameC s[i].toNat (decide (i = 0)) = true)
set_option maxHeartbeats 1000000 in
theorem name_any (s : ByteArray) (w : World) (hs : s.size ≤ maxLen) :
    Calls Tryd.prog 32 #[.string s] w fun e w' => e = .returned (.bool (nameB s)) ∧ w = w' := by
  unfold maxLen at hs
  by_cases hz : 1 ≤ s.size ∧ s.size ≤ 12
  · obtain ⟨hz1, hz2⟩ := hz
    go_enter Tryd.func32, Tryd.ntmps32
    go_wp2
    go_loop [15] (fun i => ∃ k : Nat, k ≤ s.size ∧ i = .int .i64 k ∧ ∀ j (h : j < s.size), j < k → nameC s[j].toNat (decide (j = 0)) = true) (fun i => s.size - (intOf i).toNat)
    case atStart => exact ⟨0, by omega, rfl, fun j _ hj => by omega⟩
    case round =>
      obtain ⟨k, hk, rfl, hV⟩ := hrel
      have HV : Hid (∀ j (h : j < s.size), j < k → nameC s[j].toNat (decide (j = 0)) = true) := hV
      clear hV
      by_cases hlt : k < s.size
      · have Hlt : Hid (k < s.size) := hlt
        have HY : Hid (nameC s[k].toNat (decide (k = 0)) = true → ∀ j (h : j < s.size), j < k + 1 → nameC s[j].toNat (decide (j = 0)) = true) := by
          show _ → _
          intro hy j hj hjk
          by_cases hj2 : j < k
          · exact HV.out j hj hj2
          · obtain rfl : j = k := by omega
            exact hy
        have HN : Hid (¬ nameC s[k].toNat (decide (k = 0)) = true → nameB s = false) := by
          show _ → _
          intro hn
          unfold nameB
          rw [decide_eq_false]
          rintro ⟨_, _, hall⟩
          exact hn (hall k hlt)
        have HI : Hid (nameC s[k].toNat (decide (k = 0)) = true ↔ (97 ≤ (s[k].toNat : Int) ∧ (s[k].toNat : Int) ≤ 122) ∨ (65 ≤ (s[k].toNat : Int) ∧ (s[k].toNat : Int) ≤ 90) ∨ (s[k].toNat : Int) = 95 ∨ (decide (k = 0) = false ∧ 48 ≤ (s[k].toNat : Int) ∧ (s[k].toNat : Int) ≤ 57)) := nameC_iff _ _
        clear HV
        go_wp2
        all_goals first
          | (refine ⟨⟨k + 1, by omega, by go_num, HY.out (HI.out.2 ?_)⟩, by simp [intOf]; omega⟩
             clear HY HN HI
             simp at *
             omega)
          | (go_ret
             refine ⟨?_, rfl⟩
             rw [HN.out (fun h => by
               have h2 := HI.out.1 h
               clear HY HN HI h
               simp at *
               omega)]
             rfl)
      · go_wp2
        go_ret
        refine ⟨?_, rfl⟩
        rw [show nameB s = true from ?_]
        · rfl
        · unfold nameB
          rw [decide_eq_true_eq]
          exact ⟨by omega, by omega, fun i hi => HV.out i hi (by omega)⟩
  · have HN : Hid (nameB s = false) := by
      show _ = _
      unfold nameB
      rw [decide_eq_false]
      rintro ⟨a, b, _⟩
      exact hz ⟨a, b⟩
    by_cases h1 : s.size < 1
    · clear hz
      go_enter Tryd.func32, Tryd.ntmps32
      go_wp2
      go_ret
      exact ⟨by rw [HN.out]; rfl, rfl⟩
    · have h2 : 12 < s.size := by omega
      clear hz
      go_enter Tryd.func32, Tryd.ntmps32
      go_wp2
      go_ret
      exact ⟨by rw [HN.out]; rfl, rfl⟩
end Go.Proofs.YtdjamkinijhjoaaDoor
namespace Go.Proofs.YtdjamkinijhjoaaDoor
open Go.RowKit

def Tells (F : FuncId) (cap : Value) (w : World) (P : Int → Bool) : Prop :=
 ∀ (w1 : World) (x : Int), Below w.heap.size w w1 → Calls Tryd.prog F #[.int .i64 x, cap] w1 fun e w2 => e = .returned (.bool (P x)) ∧ Below w1.heap.size w1 w2

set_option maxHeartbeats 400000 in
theorem indexFunc_end (cap : Addr) (P : Int → Bool) (b o c n : Nat) (S : Nat → Int) (w : World) (hn : n ≤ 9223372036854775807) (hb : b < w.heap.size) (hc : ∀ i, i < n → w.cell? ⟨b, o + i, none⟩ = some (.int .i64 (S i))) (hf : Tells 113 (.pointer (some cap)) w P) :
  Calls Tryd.prog 137 #[.slice (some ⟨b, o, none⟩) n c, .func (.func 113) #[] #[.pointer (some cap)]] w fun e w' => (∃ k : Int, e = .returned (.int .i64 k) ∧ Hid ((k < 0 ∧ ∀ i, i < n → P (S i) = false) ∨ (0 ≤ k ∧ ∃ i, i < n ∧ P (S i) = true))) ∧ Below w.heap.size w w' := by
 have HF : Hid (Tells 113 (.pointer (some cap)) w P) := hf
 have HC : Hid (∀ i, i < n → w.cell? ⟨b, o + i, none⟩ = some (.int .i64 (S i))) := hc
 clear hf hc
 go_enter Tryd.func137, Tryd.ntmps137
 go_wp2
 go_loopw [8] (fun i wr => ∃ k : Nat, k ≤ n ∧ i = .int .i64 k ∧ (∀ j, j < k → P (S j) = false) ∧ Below w.heap.size w wr) (fun i _ => n - (intOf i).toNat)
 case atStart => exact ⟨0, by omega, rfl, fun j hj => by omega, Below.refl _ _⟩
 case round =>
  obtain ⟨k, hk, rfl, hV, hB⟩ := hrel
  have HV : Hid (∀ j, j < k → P (S j) = false) := hV
  have HB : Hid (Below w.heap.size w wr) := hB
  clear hV hB
  by_cases hlt : k < n
  ·have c0 : wr.cell? ⟨b, o + k, none⟩ = some (.int .i64 (S k)) := (HB.out.cell (p := ⟨b, o + k, none⟩) hb).trans (HC.out k hlt)
   have Hlt : Hid (k < n) := hlt
   generalize hs : S k = s at c0
   have HS : Hid (S k = s) := hs
   clear hs
   go_wp2_with fail
   refine (HF.out wr s HB.out).mono ?_
   rintro e w2 ⟨rfl, hb2⟩
   have HB2 : Hid (Below w.heap.size w w2) := HB.out.trans (hb2.mono HB.out.size)
   clear hb2
   cases hp : P s
   ·have HP : Hid (P (S k) = false) := by rw [HS.out]; exact hp
    clear hp
    go_wp2
    refine ⟨⟨k + 1, by omega, by go_num, fun j hj => ?_, HB2.out⟩, by simp [intOf]; omega⟩
    by_cases hj2 : j < k
    ·exact HV.out j hj2
    ·obtain rfl : j = k := by omega
     exact HP.out
   ·have HP : Hid (P (S k) = true) := by rw [HS.out]; exact hp
    clear hp
    go_wp2
    go_ret
    exact ⟨⟨_, rfl, .inr ⟨by simp, k, Hlt.out, HP.out⟩⟩, HB2.out⟩
  ·go_wp2
   go_ret
   refine ⟨⟨_, rfl, .inl ⟨by omega, fun i hi => HV.out i (by omega)⟩⟩, ?_⟩
   exact HB.out
set_option maxHeartbeats 400000 in
theorem indexFunc_end0 (cap : Addr) (p : Option Addr) (c : Nat) (w : World) :
  Calls Tryd.prog 137 #[.slice p 0 c, .func (.func 113) #[] #[.pointer (some cap)]] w fun e w' => e = .returned (.int .i64 (-1)) ∧ w = w' := by
 go_enter Tryd.func137, Tryd.ntmps137
 go_wp2
 go_loop [8] (fun i => i = .int .i64 0) (fun _ => 0)
 case atStart => rfl
 case round =>
  subst hrel
  go_wp2
  go_ret
  exact ⟨rfl, rfl⟩

set_option maxHeartbeats 400000 in
theorem containsFunc_end (cap : Addr) (P : Int → Bool) (p : Option Addr) (c : Nat) (S : List Int) (w : World) (hn : S.length ≤ 9223372036854775807) (h : SliceAt w 1 IntR p S) (hf : Tells 113 (.pointer (some cap)) w P) :
  Calls Tryd.prog 112 #[.slice p S.length c, .func (.func 113) #[] #[.pointer (some cap)]] w fun e w' => e = .returned (.bool (S.any P)) ∧ Below w.heap.size w w' := by
 rcases Nat.eq_zero_or_pos S.length with h0 | h0
 ·obtain rfl := List.length_eq_zero_iff.1 h0
  clear h hf h0
  go_enter Tryd.func112, Tryd.ntmps112
  go_wp2_with (go_at_call 137; refine (indexFunc_end0 _ _ _ _).mono ?_; rintro e w1 ⟨rfl, rfl⟩)
  go_ret
  exact ⟨rfl, Below.refl _ _⟩
 rcases h with rfl | ⟨b, o, rfl, h⟩
 ·exact absurd h0 (by simp)
 have HC : Hid (∀ i, i < S.length → w.cell? ⟨b, o + i, none⟩ = some (.int .i64 (S.getD i 0))) := fun i hi => by
  obtain ⟨cs, _, hc, ⟨rfl, _⟩⟩ := h i hi
  have := hc 0 (by omega)
  simp only [Nat.mul_one, Nat.add_zero] at this
  rw [this]; simp [List.getD, hi]
 have hb : b < w.heap.size := lt_of_cell (HC.out 0 h0)
 have HF : Hid (Tells 113 (.pointer (some cap)) w P) := hf
 clear h hf
 go_enter Tryd.func112, Tryd.ntmps112
 go_wp2_with fail
 refine (indexFunc_end _ P _ _ _ _ (fun i => S.getD i 0) _ hn hb HC.out HF.out).mono ?_
 rintro e w1 ⟨⟨k, rfl, hk⟩, hb1⟩
 by_cases hk0 : 0 ≤ k
 ·have HB : Hid (S.any P = true) := by
   show _ = _
   rcases hk.out with ⟨h1, _⟩ | ⟨_, i, hi, hs⟩
   ·omega
   ·rw [List.any_eq_true]
    exact ⟨S[i], List.getElem_mem hi, by simpa [List.getD, hi] using hs⟩
  clear hk
  go_wp2
  go_ret
  exact ⟨by rw [HB.out]; simp, hb1⟩
 ·have HB : Hid (S.any P = false) := by
   show _ = _
   rcases hk.out with ⟨_, h2⟩ | ⟨h1, _⟩
   ·rw [List.any_eq_false]
    intro x hx
    obtain ⟨i, hi, rfl⟩ := List.mem_iff_getElem.1 hx
    have := h2 i hi
    simpa [List.getD, hi] using this
   ·omega
  clear hk
  go_wp2
  go_ret
  exact ⟨by rw [HB.out]; simp; omega, hb1⟩
end Go.Proofs.YtdjamkinijhjoaaDoor
namespace Go.Proofs.YtdjamkinijhjoaaDoor
open Go.RowKit

theorem run_neVal (r r' : Bool) (x x' : Int) (w : World) :
  (binOp .neq 45 (.agg #[.bool r, .int .i64 x]) (.agg #[.bool r', .int .i64 x'])).run Tryd.prog w = .ok (.bool (!(r == r' && x == x'))) w := by
 by_cases h1 : r = r' <;> by_cases h2 : x = x' <;> simp [go_sem, h1, h2]
theorem run_neFault (x y x' y' : Int) (w : World) :
  (binOp .neq 28 (.agg #[.int .i64 x, .int .i64 y]) (.agg #[.int .i64 x', .int .i64 y'])).run Tryd.prog w = .ok (.bool (!(x == x' && y == y'))) w := by
 by_cases h1 : x = x' <;> by_cases h2 : y = y' <;> simp [go_sem, h1, h2]
end Go.Proofs.YtdjamkinijhjoaaDoor
