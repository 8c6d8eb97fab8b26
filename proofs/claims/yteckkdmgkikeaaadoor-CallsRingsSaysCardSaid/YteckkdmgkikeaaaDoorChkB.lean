/-
  The contracts of slices.Index and slices.Contains on texts.
-/
import Derived.Test.YteckkdmgkikeaaaDoorDatC
import Derived.WalkKit
import Derived.WalkSpells
import Derived.WalkLawsBesides
namespace Go.Proofs.YteckkdmgkikeaaaDoor
open Go.RowKit

/-- the texts of a slice -/
def StrsAt (w : World) (p : Option Addr) (S : List ByteArray) : Prop :=
  S = [] ∨ ∃ b o, p = some ⟨b, o, none⟩ ∧ ∀ i (h : i < S.length), w.cell? ⟨b, o + i, none⟩ = some (.string S[i])

theorem bytes_eq {a b : ByteArray} : (a.toList == b.toList) = true ↔ a = b := by
  rw [beq_iff_eq, ByteArray.toList_eq, ByteArray.toList_eq]
  constructor
  · intro h
    obtain ⟨x⟩ := a
    obtain ⟨y⟩ := b
    rw [show x = y from Array.toList_inj.1 h]
  · rintro rfl; rfl

set_option maxHeartbeats 400000 in
theorem index_str (b o c n : Nat) (S : Nat → ByteArray) (v : ByteArray) (w : World) (hn : n ≤ 9223372036854775807) (hc : ∀ i, i < n → w.cell? ⟨b, o + i, none⟩ = some (.string (S i))) :
    Calls Tryd.prog 76 #[.slice (some ⟨b, o, none⟩) n c, .string v] w fun e w' => (∃ k : Int, e = .returned (.int .i64 k) ∧ Hid ((k < 0 ∧ ∀ i, i < n → S i ≠ v) ∨ (0 ≤ k ∧ ∃ i, i < n ∧ S i = v))) ∧ w = w' := by
  go_enter Tryd.func76, Tryd.ntmps76
  go_wp2
  go_loop [8] (fun i => ∃ k : Nat, k ≤ n ∧ i = .int .i64 k ∧ ∀ j, j < k → S j ≠ v) (fun i => n - (intOf i).toNat)
  case atStart => exact ⟨0, by omega, rfl, fun j hj => by omega⟩
  case round =>
    obtain ⟨k, hk, rfl, hV⟩ := hrel
    have HV : Hid (∀ j, j < k → S j ≠ v) := hV
    clear hV
    by_cases hlt : k < n
    · have c0 := hc k hlt
      have Hlt : Hid (k < n) := hlt
      generalize hs : S k = s at c0
      have HS : Hid (S k = s) := hs
      clear hs hc
      go_wp2
      · rename_i hw _
        go_ret
        refine ⟨⟨_, rfl, .inr ⟨by simp, k, Hlt.out, ?_⟩⟩, rfl⟩
        rw [HS.out]
        exact (bytes_eq.1 hw).symm
      · rename_i hw
        refine ⟨⟨k + 1, by omega, by go_num, fun j hj => ?_⟩, by simp [intOf]; omega⟩
        by_cases hj2 : j < k
        · exact HV.out j hj2
        · obtain rfl : j = k := by omega
          rw [HS.out]
          intro he
          rw [bytes_eq.2 he.symm] at hw
          cases hw
    · go_wp2
      go_ret
      refine ⟨⟨_, rfl, .inl ⟨by omega, fun i hi => HV.out i (by omega)⟩⟩, rfl⟩
set_option maxHeartbeats 400000 in
theorem index_nil (p : Option Addr) (c : Nat) (v : ByteArray) (w : World) :
    Calls Tryd.prog 76 #[.slice p 0 c, .string v] w fun e w' => e = .returned (.int .i64 (-1)) ∧ w = w' := by
  go_enter Tryd.func76, Tryd.ntmps76
  go_wp2
  go_loop [8] (fun i => i = .int .i64 0) (fun _ => 0)
  case atStart => rfl
  case round =>
    subst hrel
    go_wp2
    go_ret
    exact ⟨rfl, rfl⟩

def hasB (S : List ByteArray) (v : ByteArray) : Bool := S.any fun s => s.toList == v.toList
theorem hasB_iff {S : List ByteArray} {v : ByteArray} : hasB S v = true ↔ v ∈ S := by
  unfold hasB
  rw [List.any_eq_true]
  constructor
  · rintro ⟨s, hs, he⟩
    rw [← bytes_eq.1 he]; exact hs
  · intro h
    exact ⟨v, h, bytes_eq.2 rfl⟩
set_option maxHeartbeats 400000 in
/-- is a text among those of a slice? -/
theorem contains_str (p : Option Addr) (c : Nat) (S : List ByteArray) (v : ByteArray) (w : World) (hn : S.length ≤ 9223372036854775807) (h : StrsAt w p S) :
    Calls Tryd.prog 45 #[.slice p S.length c, .string v] w fun e w' => e = .returned (.bool (hasB S v)) ∧ w = w' := by
  rcases h with rfl | ⟨b, o, rfl, h⟩
  · go_enter Tryd.func45, Tryd.ntmps45
    go_wp2_with (go_at_call 76; refine (index_nil _ _ _ _).mono ?_; rintro e w1 ⟨rfl, rfl⟩)
    go_ret
    exact ⟨by simp [hasB], rfl⟩
  · have HC : Hid (∀ i, i < S.length → w.cell? ⟨b, o + i, none⟩ = some (.string (S.getD i ByteArray.empty))) := fun i hi => by
      rw [h i hi]; simp [List.getD, hi]
    clear h
    go_enter Tryd.func45, Tryd.ntmps45
    go_wp2_with fail
    refine (index_str _ _ _ _ (fun i => S.getD i ByteArray.empty) _ _ hn HC.out).mono ?_
    rintro e w1 ⟨⟨k, rfl, hk⟩, rfl⟩
    by_cases hk0 : 0 ≤ k
    · have HB : Hid (hasB S v = true) := by
        show _ = _
        rcases hk.out with ⟨h1, _⟩ | ⟨_, i, hi, hs⟩
        · omega
        · rw [hasB_iff, ← hs]
          simp [List.getD, hi]
      clear hk
      go_wp2
      go_ret
      exact ⟨by rw [HB.out]; simp, rfl⟩
    · have HB : Hid (hasB S v = false) := by
        show _ = _
        rcases hk.out with ⟨_, h2⟩ | ⟨h1, _⟩
        · rw [Bool.eq_false_iff]
          intro hb
          have hm := hasB_iff.1 hb
          obtain ⟨i, hi, he⟩ := List.mem_iff_getElem.1 hm
          exact h2 i hi (by simp [List.getD, hi, he])
        · omega
      clear hk
      go_wp2
      go_ret
      exact ⟨by rw [HB.out]; simp; omega, rfl⟩
end Go.Proofs.YteckkdmgkikeaaaDoor
