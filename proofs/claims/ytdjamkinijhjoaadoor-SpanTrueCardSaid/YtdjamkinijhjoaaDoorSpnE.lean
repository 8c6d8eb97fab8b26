/-
  The contract of span.product: a product, and does it fit?
-/
import Derived.WalkKit
import Derived.WalkSpells
import Derived.WalkLawsBesides
import Derived.Test.YtdjamkinijhjoaaDoorSpnD
namespace Go.Proofs.YtdjamkinijhjoaaDoor
open Go.RowKit

theorem fits_div {a b c : Int} (_ha : I64 a) (hb : I64 b) (h0 : b ≠ 0) (hc : c = wrap64 (a * b)) (hn : i64B (a * b) = false) (h2 : wrap64 (c.tdiv b) = a) : a = -9223372036854775808 ∧ b = -1 := by
 have hno : ¬ (-9223372036854775808 ≤ a * b ∧ a * b ≤ 9223372036854775807) := by
  intro h
  unfold i64B minI maxI at hn
  simp only [decide_eq_false_iff_not] at hn
  exact hn h
 unfold I64 at _ha hb
 have hcw : -9223372036854775808 ≤ c ∧ c ≤ 9223372036854775807 := by rw [hc]; unfold wrap64; omega
 have hck : ∃ k : Int, c = a * b + k * 18446744073709551616 := by
  rw [hc]
  unfold wrap64
  generalize a * b = p
  exact ⟨-((p + 9223372036854775808) / 18446744073709551616), by omega⟩
 have key : c.tdiv b = a → False := fun h => by
  have e := Int.mul_tdiv_add_tmod c b
  rw [h] at e
  have hr : (c.tmod b).natAbs < b.natAbs := by
   rw [Int.natAbs_tmod]
   exact Nat.mod_lt _ (Int.natAbs_pos.2 h0)
  obtain ⟨k, hk⟩ := hck
  have e2 : b * a = a * b := Int.mul_comm b a
  rw [e2] at e
  generalize a * b = p at *
  omega
 by_cases hs : c = -9223372036854775808 ∧ b = -1
 ·obtain ⟨rfl, rfl⟩ := hs
  refine ⟨?_, rfl⟩
  rw [← h2, Int.tdiv_neg, Int.tdiv_one]
  unfold wrap64
  omega
 ·exfalso
  refine key ?_
  have hbd : -9223372036854775808 ≤ c.tdiv b ∧ c.tdiv b ≤ 9223372036854775807 := by
   rcases Int.lt_or_le b 1 with hb1 | hb1
   ·by_cases e1 : b = -1
    ·subst e1
     have : c.tdiv (-1) = -c := by rw [Int.tdiv_neg, Int.tdiv_one]
     rw [this]
     have : c ≠ -9223372036854775808 := fun e => hs ⟨e, rfl⟩
     omega
    ·have e2 : c.tdiv b = -(c.tdiv (-b)) := by rw [Int.tdiv_neg, Int.neg_neg]
     have e3 := tdiv_bd (a := c) (b := -b) (m := 9223372036854775807) (by omega) (by omega) (by omega) (by omega)
     have e4 : (c.tdiv (-b)).natAbs ≤ c.natAbs / 2 := by
      rw [Int.natAbs_tdiv]
      exact Nat.div_le_div_left (by omega) (by omega)
     omega
   ·have := tdiv_bd (a := c) (b := b) (m := 9223372036854775807) hb1 (by omega) (by omega) (by omega)
    omega
  have : wrap64 (c.tdiv b) = c.tdiv b := by unfold wrap64; omega
  rw [← this]
  exact h2
theorem fits_sign {a b : Int} (ha : a ≠ 0) (hb : b ≠ 0) : (a * b < 0 ↔ ((a < 0 ∧ ¬ b < 0) ∨ (¬ a < 0 ∧ b < 0))) := by
 constructor
 ·intro h
  rcases Int.lt_or_le a 0 with h1 | h1 <;> rcases Int.lt_or_le b 0 with h2 | h2
  ·have := Int.mul_pos_of_neg_of_neg h1 h2; omega
  ·exact .inl ⟨h1, by omega⟩
  ·exact .inr ⟨by omega, h2⟩
  ·have := Int.mul_nonneg h1 h2; omega
 ·rintro (⟨h1, h2⟩ | ⟨h1, h2⟩)
  ·exact Int.mul_neg_of_neg_of_pos h1 (by omega)
  ·exact Int.mul_neg_of_pos_of_neg (by omega) h2

set_option maxRecDepth 100000 in
set_option maxHeartbeats 2000000 in
theorem spanProduct_any (a b : Int) (w : World) (ha : I64 a) (hb : I64 b) :
  Calls Tryd.prog 95 #[.int .i64 a, .int .i64 b] w fun e w' => e = .returned (.tuple #[.int .i64 (wrap64 (a * b)), .bool (i64B (a * b))]) ∧ w = w' := by
 by_cases h0 : a = 0
 ·subst h0
  go_enter Tryd.func95, Tryd.ntmps95
  go_wp2
  refine bodyPost_ret (v := .tuple #[.int .i64 0, .bool true]) (by simp [results, Tryd.results95]) rfl ⟨?_, rfl⟩
  simp [wrap64, i64B, minI, maxI]
 by_cases h1 : b = 0
 ·subst h1
  go_enter Tryd.func95, Tryd.ntmps95
  go_wp2
  refine bodyPost_ret (v := .tuple #[.int .i64 0, .bool true]) (by simp [results, Tryd.results95]) rfl ⟨?_, rfl⟩
  simp [wrap64, i64B, minI, maxI]
 have hwr : ∀ n, IntKind.i64.wrap n = wrap64 n := IntWalk.i64_left
 have hsg := fits_sign h0 h1
 obtain ⟨c, hc⟩ : ∃ c, c = wrap64 (a * b) := ⟨_, rfl⟩
 obtain ⟨q, hq⟩ : ∃ q, q = wrap64 (c.tdiv b) := ⟨_, rfl⟩
 have hfd := fits_div ha hb h1 hc
 rw [← hq] at hfd
 obtain ⟨r, hr⟩ : ∃ r, r = i64B (a * b) := ⟨_, rfl⟩
 rw [← hr] at hfd
 have hin : r = true → c = a * b ∧ q = a := fun h => by
  rw [h] at hr
  have h3 : -9223372036854775808 ≤ a * b ∧ a * b ≤ 9223372036854775807 := by
   have := hr.symm
   unfold i64B minI maxI at this
   simpa using this
  have e : c = a * b := by rw [hc]; unfold wrap64; omega
  refine ⟨e, ?_⟩
  rw [hq, e, Int.mul_tdiv_cancel a h1]
  unfold I64 at ha
  unfold wrap64
  omega
 have hmin : r = true → ¬ (a = -9223372036854775808 ∧ b = -1) ∧ ¬ (b = -9223372036854775808 ∧ a = -1) := fun h => by
  rw [h] at hr
  have h3 : -9223372036854775808 ≤ a * b ∧ a * b ≤ 9223372036854775807 := by
   have := hr.symm
   unfold i64B minI maxI at this
   simpa using this
  constructor
  ·rintro ⟨rfl, rfl⟩; omega
  ·rintro ⟨rfl, rfl⟩; omega
 rw [← hr]
 have HC := hidI hc
 have HQ := hidI hq
 rw [← hc]
 have hmul : IntKind.i64.wrap (a * b) = c := by rw [hwr, hc]
 have hquo : IntKind.i64.wrap (c.tdiv b) = q := by rw [hwr, hq]
 have hmul2 : wrap64 (a * b) = c := hc.symm
 have hquo2 : wrap64 (c.tdiv b) = q := hq.symm
 have hh0 : (a == 0) = false := by simpa using h0
 have hh1 : (b == 0) = false := by simpa using h1
 have hh2 : ¬ b = 0 := h1
 have HFd := hidI hfd
 have HIn := hidI hin
 have HMin := hidI hmin
 have HSg := hidI hsg
 have HR := hidI hr
 clear hfd hin hmin hsg hr hc hq h0 h1
 have fin : ∀ (t : Array Value) (v : Bool), t.getD 4 undef = .int .i64 c → t.getD 5 undef = .bool v → v = r → (results Tryd.f95 t).run Tryd.prog w = .ok (.tuple #[.int .i64 c, .bool r]) w := fun t v e1 e2 e3 => by
  have e1' : t[4]?.getD undef = .int .i64 c := by simpa using e1
  have e2' : t[5]?.getD undef = .bool v := by simpa using e2
  simp [results, Tryd.results95, e1', e2', e3]
 have HFin := hidI fin
 clear fin
 by_cases hf1 : (decide (c < 0) == !(decide (a < 0) == decide (b < 0))) = true
 ·by_cases hqa : q = a
  ·have hq2 : (q == a) = true := by simpa using hqa
   have hqF := HFd.out
   have HQA := hidI hqa
   clear hqa hqF
   have hA : ∀ (x y : Int), ¬ x = y → (x == y) = false := fun x y h => by simpa using h
   have hMin : (a = -9223372036854775808 ∧ b = -1) ∨ (b = -9223372036854775808 ∧ a = -1) → false = r := fun h => by
    cases hr : r
    ·rfl
    ·rcases h with h | h
     ·exact absurd h (HMin.out hr).1
     ·exact absurd h (HMin.out hr).2
   have hOk : ¬ (a = -9223372036854775808 ∧ b = -1) → true = r := fun h => by
    cases hr : r
    ·exact absurd (HFd.out hr HQA.out) h
    ·rfl
   have HA := hidI hA
   have HMn := hidI hMin
   have HOk := hidI hOk
   clear hA hMin hOk
   by_cases m1 : a = -9223372036854775808
   ·by_cases m2 : b = -1
    ·have HV := hidI (HMn.out (.inl ⟨m1, m2⟩))
     have n1 : (a == -9223372036854775808) = true := by simpa using m1
     have n2 : (b == -1) = true := by simpa using m2
     clear m1 m2
     go_enter Tryd.func95, Tryd.ntmps95
     go_wp2
     exact bodyPost_ret (HFin.out _ _ rfl rfl HV.out) rfl ⟨rfl, rfl⟩
    ·have n1 : (a == -9223372036854775808) = true := by simpa using m1
     have n2 := HA.out _ _ m2
     have HF1 := hidI (show ¬ (a = -9223372036854775808 ∧ b = -1) from fun h => m2 h.2)
     clear m1 m2
     by_cases m3 : b = -9223372036854775808
     ·by_cases m4 : a = -1
      ·have HV := hidI (HMn.out (.inr ⟨m3, m4⟩))
       have n3 : (b == -9223372036854775808) = true := by simpa using m3
       have n4 : (a == -1) = true := by simpa using m4
       clear m3 m4
       go_enter Tryd.func95, Tryd.ntmps95
       go_wp2
       exact bodyPost_ret (HFin.out _ _ rfl rfl HV.out) rfl ⟨rfl, rfl⟩
      ·have HV := hidI (HOk.out HF1.out)
       have n3 : (b == -9223372036854775808) = true := by simpa using m3
       have n4 := HA.out _ _ m4
       clear m3 m4
       go_enter Tryd.func95, Tryd.ntmps95
       go_wp2
       exact bodyPost_ret (HFin.out _ _ rfl rfl HV.out) rfl ⟨rfl, rfl⟩
     ·have HV := hidI (HOk.out HF1.out)
      have n3 := HA.out _ _ m3
      clear m3
      go_enter Tryd.func95, Tryd.ntmps95
      go_wp2
      exact bodyPost_ret (HFin.out _ _ rfl rfl HV.out) rfl ⟨rfl, rfl⟩
   ·have n1 := HA.out _ _ m1
    have HF1 := hidI (show ¬ (a = -9223372036854775808 ∧ b = -1) from fun h => m1 h.1)
    clear m1
    by_cases m3 : b = -9223372036854775808
    ·by_cases m4 : a = -1
     ·have HV := hidI (HMn.out (.inr ⟨m3, m4⟩))
      have n3 : (b == -9223372036854775808) = true := by simpa using m3
      have n4 : (a == -1) = true := by simpa using m4
      clear m3 m4
      go_enter Tryd.func95, Tryd.ntmps95
      go_wp2
      exact bodyPost_ret (HFin.out _ _ rfl rfl HV.out) rfl ⟨rfl, rfl⟩
     ·have HV := hidI (HOk.out HF1.out)
      have n3 : (b == -9223372036854775808) = true := by simpa using m3
      have n4 := HA.out _ _ m4
      clear m3 m4
      go_enter Tryd.func95, Tryd.ntmps95
      go_wp2
      exact bodyPost_ret (HFin.out _ _ rfl rfl HV.out) rfl ⟨rfl, rfl⟩
    ·have HV := hidI (HOk.out HF1.out)
     have n3 := HA.out _ _ m3
     clear m3
     go_enter Tryd.func95, Tryd.ntmps95
     go_wp2
     exact bodyPost_ret (HFin.out _ _ rfl rfl HV.out) rfl ⟨rfl, rfl⟩
  ·have HV : Hid (false = r) := hidI (by
    cases hr : r
    ·rfl
    ·exact absurd (HIn.out hr).2 hqa)
   have hq2 : (q == a) = false := by simpa using hqa
   clear hqa
   go_enter Tryd.func95, Tryd.ntmps95
   go_wp2
   exact bodyPost_ret (HFin.out _ _ rfl rfl HV.out) rfl ⟨rfl, rfl⟩
 ·have HV : Hid (false = r) := hidI (by
   cases hr : r
   ·rfl
   ·exfalso
    apply hf1
    have h1 := (HIn.out hr).1
    have h2 := HSg.out
    rw [← h1] at h2
    by_cases x1 : a < 0 <;> by_cases x2 : b < 0 <;> by_cases x3 : c < 0 <;> simp_all)
  have hf1 := Bool.eq_false_iff.2 hf1
  go_enter Tryd.func95, Tryd.ntmps95
  go_wp2
  exact bodyPost_ret (HFin.out _ _ rfl rfl HV.out) rfl ⟨rfl, rfl⟩
end Go.Proofs.YtdjamkinijhjoaaDoor
