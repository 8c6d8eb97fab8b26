/-
  The contract of code.first: the first fault of three questions.
-/
import Derived.Test.YteckkdmgkikeaaaDoorChkE
import Derived.WalkKit
import Derived.WalkSpells
import Derived.WalkLawsBesides
namespace Go.Proofs.YteckkdmgkikeaaaDoor
open Go.RowKit

/-- a question answers e in every world that grew out of w -/
def Asks (F : FuncId) (caps : Array Value) (w : World) (e : Int) : Prop :=
  ∀ w1 : World, Below w.heap.size w w1 → Calls Tryd.prog F caps w1 fun x w2 => x = .returned (.int .i64 e) ∧ Below w1.heap.size w1 w2

set_option maxHeartbeats 1000000 in
theorem first_any (sb so sc : Nat) (B X C : Addr) (e1 e2 e3 : Int) (w : World)
    (h0 : w.cell? ⟨sb, so, none⟩ = some (.func (.func 125) #[] #[.pointer (some B), .pointer (some X)]))
    (h1 : w.cell? ⟨sb, so + 1, none⟩ = some (.func (.func 126) #[] #[.pointer (some B), .pointer (some X)]))
    (h2 : w.cell? ⟨sb, so + 2, none⟩ = some (.func (.func 127) #[] #[.pointer (some C), .pointer (some X), .pointer (some B)]))
    (a1 : Asks 125 #[.pointer (some B), .pointer (some X)] w e1) (a2 : Asks 126 #[.pointer (some B), .pointer (some X)] w e2) (a3 : Asks 127 #[.pointer (some C), .pointer (some X), .pointer (some B)] w e3) :
    Calls Tryd.prog 124 #[.slice (some ⟨sb, so, none⟩) 3 sc] w fun e w' => e = .returned (.int .i64 (firstE [e1, e2, e3])) ∧ Below w.heap.size w w' := by
  have A1 : Hid (Asks 125 #[.pointer (some B), .pointer (some X)] w e1) := a1
  have A2 : Hid (Asks 126 #[.pointer (some B), .pointer (some X)] w e2) := a2
  have A3 : Hid (Asks 127 #[.pointer (some C), .pointer (some X), .pointer (some B)] w e3) := a3
  have hsb := lt_of_cell h0
  clear a1 a2 a3
  go_enter Tryd.func124, Tryd.ntmps124
  go_wp2
  go_loopw [8] (fun i wr => ∃ k : Nat, i = .int .i64 k ∧ (k = 0 ∨ (k = 1 ∧ e1 = 0) ∨ (k = 2 ∧ e1 = 0 ∧ e2 = 0) ∨ (k = 3 ∧ e1 = 0 ∧ e2 = 0 ∧ e3 = 0)) ∧ Below w.heap.size w wr) (fun i _ => 3 - (intOf i).toNat)
  case atStart => exact ⟨0, rfl, .inl rfl, Below.refl _ _⟩
  case round =>
    obtain ⟨k, rfl, hk, hB⟩ := hrel
    have HB : Hid (Below w.heap.size w wr) := hB
    have g0 := (hB.cell (p := ⟨sb, so, none⟩) hsb).trans h0
    have g1 := (hB.cell (p := ⟨sb, so + 1, none⟩) hsb).trans h1
    have g2 := (hB.cell (p := ⟨sb, so + 2, none⟩) hsb).trans h2
    clear hB
    rcases hk with rfl | ⟨rfl, z1⟩ | ⟨rfl, z1, z2⟩ | ⟨rfl, z1, z2, z3⟩
    · by_cases hz : e1 = 0
      · have hzb : (e1 != 0) = false := by simp [hz]
        have HZ : Hid (e1 = 0) := hz
        clear hz
        go_wp2_with fail
        refine (A1.out _ HB.out).mono ?_
        rintro e w2 ⟨rfl, hb2⟩
        have HB2 : Hid (Below w.heap.size w w2) := HB.out.trans (hb2.mono HB.out.size)
        clear hb2
        go_wp2
        exact ⟨⟨1, by go_num, .inr (.inl ⟨rfl, HZ.out⟩), HB2.out⟩, by simp [intOf]⟩
      · have hzb : (e1 != 0) = true := by simp [hz]
        have HV : Hid (firstE [e1, e2, e3] = e1) := by show _ = _; simp [firstE, hz]
        clear hz
        go_wp2_with fail
        refine (A1.out _ HB.out).mono ?_
        rintro e w2 ⟨rfl, hb2⟩
        have HB2 : Hid (Below w.heap.size w w2) := HB.out.trans (hb2.mono HB.out.size)
        clear hb2
        go_wp2
        go_ret
        exact ⟨by rw [HV.out]; rfl, HB2.out⟩
    · by_cases hz : e2 = 0
      · have hzb : (e2 != 0) = false := by simp [hz]
        have HZ : Hid (e1 = 0 ∧ e2 = 0) := ⟨z1, hz⟩
        clear hz z1
        go_wp2_with fail
        refine (A2.out _ HB.out).mono ?_
        rintro e w2 ⟨rfl, hb2⟩
        have HB2 : Hid (Below w.heap.size w w2) := HB.out.trans (hb2.mono HB.out.size)
        clear hb2
        go_wp2
        exact ⟨⟨2, by go_num, .inr (.inr (.inl ⟨rfl, HZ.out⟩)), HB2.out⟩, by simp [intOf]⟩
      · have hzb : (e2 != 0) = true := by simp [hz]
        have HV : Hid (firstE [e1, e2, e3] = e2) := by show _ = _; simp [firstE, hz, z1]
        clear hz z1
        go_wp2_with fail
        refine (A2.out _ HB.out).mono ?_
        rintro e w2 ⟨rfl, hb2⟩
        have HB2 : Hid (Below w.heap.size w w2) := HB.out.trans (hb2.mono HB.out.size)
        clear hb2
        go_wp2
        go_ret
        exact ⟨by rw [HV.out]; rfl, HB2.out⟩
    · by_cases hz : e3 = 0
      · have hzb : (e3 != 0) = false := by simp [hz]
        have HZ : Hid (e1 = 0 ∧ e2 = 0 ∧ e3 = 0) := ⟨z1, z2, hz⟩
        clear hz z1 z2
        go_wp2_with fail
        refine (A3.out _ HB.out).mono ?_
        rintro e w2 ⟨rfl, hb2⟩
        have HB2 : Hid (Below w.heap.size w w2) := HB.out.trans (hb2.mono HB.out.size)
        clear hb2
        go_wp2
        exact ⟨⟨3, by go_num, .inr (.inr (.inr ⟨rfl, HZ.out⟩)), HB2.out⟩, by simp [intOf]⟩
      · have hzb : (e3 != 0) = true := by simp [hz]
        have HV : Hid (firstE [e1, e2, e3] = e3) := by show _ = _; simp [firstE, hz, z1, z2]
        clear hz z1 z2
        go_wp2_with fail
        refine (A3.out _ HB.out).mono ?_
        rintro e w2 ⟨rfl, hb2⟩
        have HB2 : Hid (Below w.heap.size w w2) := HB.out.trans (hb2.mono HB.out.size)
        clear hb2
        go_wp2
        go_ret
        exact ⟨by rw [HV.out]; rfl, HB2.out⟩
    · have HV : Hid (firstE [e1, e2, e3] = 0) := by show _ = _; simp [firstE, z1, z2, z3]
      clear z1 z2 z3
      go_wp2
      go_ret
      exact ⟨by rw [HV.out]; rfl, HB.out⟩
end Go.Proofs.YteckkdmgkikeaaaDoor
