/-
  The contracts of slices.IndexFunc and slices.ContainsFunc on numbers, with a closure that tells something of a number.
-/
import Derived.Test.YteckkdmgkikeaaaDoorDatC
import Derived.WalkKit
import Derived.WalkSpells
import Derived.WalkLawsBesides
namespace Go.Proofs.YteckkdmgkikeaaaDoor
open Go.RowKit

/-- a function value that tells P of a number, whatever memory has come since w -/
def Tells (F : FuncId) (cap : Value) (w : World) (P : Int → Bool) : Prop :=
  ∀ (w1 : World) (x : Int), Below w.heap.size w w1 → Calls Tryd.prog F #[.int .i64 x, cap] w1 fun e w2 => e = .returned (.bool (P x)) ∧ Below w1.heap.size w1 w2

set_option maxHeartbeats 400000 in
theorem indexFunc_end (cap : Addr) (P : Int → Bool) (b o c n : Nat) (S : Nat → Int) (w : World) (hn : n ≤ 9223372036854775807) (hb : b < w.heap.size) (hc : ∀ i, i < n → w.cell? ⟨b, o + i, none⟩ = some (.int .i64 (S i))) (hf : Tells 121 (.pointer (some cap)) w P) :
    Calls Tryd.prog 99 #[.slice (some ⟨b, o, none⟩) n c, .func (.func 121) #[] #[.pointer (some cap)]] w fun e w' => (∃ k : Int, e = .returned (.int .i64 k) ∧ Hid ((k < 0 ∧ ∀ i, i < n → P (S i) = false) ∨ (0 ≤ k ∧ ∃ i, i < n ∧ P (S i) = true))) ∧ Below w.heap.size w w' := by
  have HF : Hid (Tells 121 (.pointer (some cap)) w P) := hf
  have HC : Hid (∀ i, i < n → w.cell? ⟨b, o + i, none⟩ = some (.int .i64 (S i))) := hc
  clear hf hc
  go_enter Tryd.func99, Tryd.ntmps99
  go_wp2
  go_loopw [8] (fun i wr => ∃ k : Nat, k ≤ n ∧ i = .int .i64 k ∧ (∀ j, j < k → P (S j) = false) ∧ Below w.heap.size w wr) (fun i _ => n - (intOf i).toNat)
  case atStart => exact ⟨0, by omega, rfl, fun j hj => by omega, Below.refl _ _⟩
  case round =>
    obtain ⟨k, hk, rfl, hV, hB⟩ := hrel
    have HV : Hid (∀ j, j < k → P (S j) = false) := hV
    have HB : Hid (Below w.heap.size w wr) := hB
    clear hV hB
    by_cases hlt : k < n
    · have c0 : wr.cell? ⟨b, o + k, none⟩ = some (.int .i64 (S k)) := (HB.out.cell (p := ⟨b, o + k, none⟩) hb).trans (HC.out k hlt)
      have Hlt : Hid (k < n) := hlt
      generalize hs : S k = s at c0
      have HS : Hid (S k = s) := hs
      clear hs
      go_wp2_with fail
      refine (HF.out wr s HB.out).mono ?_
      rintro e w2 ⟨rfl, hb2⟩
      have HB2 : Hid (Below w.heap.size w w2) := HB.out.trans (hb2.mono HB.out.size)
      clear hb2
      cases hp : P s
      · have HP : Hid (P (S k) = false) := by rw [HS.out]; exact hp
        clear hp
        go_wp2
        refine ⟨⟨k + 1, by omega, by go_num, fun j hj => ?_, HB2.out⟩, by simp [intOf]; omega⟩
        by_cases hj2 : j < k
        · exact HV.out j hj2
        · obtain rfl : j = k := by omega
          exact HP.out
      · have HP : Hid (P (S k) = true) := by rw [HS.out]; exact hp
        clear hp
        go_wp2
        go_ret
        exact ⟨⟨_, rfl, .inr ⟨by simp, k, Hlt.out, HP.out⟩⟩, HB2.out⟩
    · go_wp2
      go_ret
      refine ⟨⟨_, rfl, .inl ⟨by omega, fun i hi => HV.out i (by omega)⟩⟩, ?_⟩
      exact HB.out
set_option maxHeartbeats 400000 in
theorem indexFunc_end0 (cap : Addr) (p : Option Addr) (c : Nat) (w : World) :
    Calls Tryd.prog 99 #[.slice p 0 c, .func (.func 121) #[] #[.pointer (some cap)]] w fun e w' => e = .returned (.int .i64 (-1)) ∧ w = w' := by
  go_enter Tryd.func99, Tryd.ntmps99
  go_wp2
  go_loop [8] (fun i => i = .int .i64 0) (fun _ => 0)
  case atStart => rfl
  case round =>
    subst hrel
    go_wp2
    go_ret
    exact ⟨rfl, rfl⟩

set_option maxHeartbeats 400000 in
/-- does the closure tell so of one of a slice's numbers? -/
theorem containsFunc_end (cap : Addr) (P : Int → Bool) (p : Option Addr) (c : Nat) (S : List Int) (w : World) (hn : S.length ≤ 9223372036854775807) (h : SliceAt w 1 IntR p S) (hf : Tells 121 (.pointer (some cap)) w P) :
    Calls Tryd.prog 62 #[.slice p S.length c, .func (.func 121) #[] #[.pointer (some cap)]] w fun e w' => e = .returned (.bool (S.any P)) ∧ Below w.heap.size w w' := by
  rcases Nat.eq_zero_or_pos S.length with h0 | h0
  · obtain rfl := List.length_eq_zero_iff.1 h0
    clear h hf h0
    go_enter Tryd.func62, Tryd.ntmps62
    go_wp2_with (go_at_call 99; refine (indexFunc_end0 _ _ _ _).mono ?_; rintro e w1 ⟨rfl, rfl⟩)
    go_ret
    exact ⟨rfl, Below.refl _ _⟩
  rcases h with rfl | ⟨b, o, rfl, h⟩
  · exact absurd h0 (by simp)
  have HC : Hid (∀ i, i < S.length → w.cell? ⟨b, o + i, none⟩ = some (.int .i64 (S.getD i 0))) := fun i hi => by
    obtain ⟨cs, _, hc, ⟨rfl, _⟩⟩ := h i hi
    have := hc 0 (by omega)
    simp only [Nat.mul_one, Nat.add_zero] at this
    rw [this]; simp [List.getD, hi]
  have hb : b < w.heap.size := lt_of_cell (HC.out 0 h0)
  have HF : Hid (Tells 121 (.pointer (some cap)) w P) := hf
  clear h hf
  go_enter Tryd.func62, Tryd.ntmps62
  go_wp2_with fail
  refine (indexFunc_end _ P _ _ _ _ (fun i => S.getD i 0) _ hn hb HC.out HF.out).mono ?_
  rintro e w1 ⟨⟨k, rfl, hk⟩, hb1⟩
  by_cases hk0 : 0 ≤ k
  · have HB : Hid (S.any P = true) := by
      show _ = _
      rcases hk.out with ⟨h1, _⟩ | ⟨_, i, hi, hs⟩
      · omega
      · rw [List.any_eq_true]
        exact ⟨S[i], List.getElem_mem hi, by simpa [List.getD, hi] using hs⟩
    clear hk
    go_wp2
    go_ret
    exact ⟨by rw [HB.out]; simp, hb1⟩
  · have HB : Hid (S.any P = false) := by
      show _ = _
      rcases hk.out with ⟨_, h2⟩ | ⟨h1, _⟩
      · rw [List.any_eq_false]
        intro x hx
        obtain ⟨i, hi, rfl⟩ := List.mem_iff_getElem.1 hx
        have := h2 i hi
        simpa [List.getD, hi] using this
      · omega
    clear hk
    go_wp2
    go_ret
    exact ⟨by rw [HB.out]; simp; omega, hb1⟩
end Go.Proofs.YteckkdmgkikeaaaDoor
