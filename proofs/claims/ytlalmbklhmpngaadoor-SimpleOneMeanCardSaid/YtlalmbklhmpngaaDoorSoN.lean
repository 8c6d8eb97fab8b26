/-
  The laws SimpleOneSays and SimpleOneRest, walked out of the contracts.
-/
import Derived.Test.YtlalmbklhmpngaaDoorSoL
import Derived.Test.YtlalmbklhmpngaaDoorBSoH
import Derived.Test.YtlalmbklhmpngaaDoorBSoF
import Derived.BigQuiet
import Derived.Deep.QuietTactic
import Derived.Deep.RegionWith
import Derived.Deep.RegionHeld
import Derived.WalkKit
import Derived.WalkSpells
import Derived.WalkLawsBesides
namespace Go.Proofs.YtlalmbklhmpngaaDoor
open Go.RowKit
attribute [local go_sem] World.cell?_alloc_some

/-- the form keeps its arguments, or has none: whichever they are -/
def Keeps (F : Option Addr → Nat → Nat → Inst) : Prop := ∃ (o d : Int) (r : Bool) (n : Int) (r' : Bool) (n' f : Int) (k : Bool), ∀ (ap : Option Addr) (al ac : Nat),
    F ap al ac = ⟨o, d, r, n, r', n', f, if k then ap else none, if k then al else 0, if k then ac else 0⟩
theorem keeps_ite {c : Prop} [Decidable c] {A B : Option Addr → Nat → Nat → Inst} (ha : Keeps A) (hb : Keeps B) : Keeps fun ap al ac => if c then A ap al ac else B ap al ac := by
  by_cases h : c
  · simp only [if_pos h]; exact ha
  · simp only [if_neg h]; exact hb
theorem oneI_keeps (op dst an bn fn : Int) (ar br : Bool) : Keeps fun ap al ac => oneI op dst an bn fn ar br ap al ac := by
  unfold oneI fixI ledI aliI one1
  repeat' (refine keeps_ite ?_ ?_)
  all_goals first
    | exact ⟨_, _, _, _, _, _, _, true, fun _ _ _ => rfl⟩
    | exact ⟨_, _, _, _, _, _, _, false, fun _ _ _ => rfl⟩

theorem OnePost.keep {op dst an bn fn : Int} {ar br : Bool} {o d : Int} {r : Bool} {n : Int} {r' : Bool} {n' f : Int} {k : Bool} {al : Nat} {V : Nat → Bool × Int} {e : Ending} {w' : World}
    (hk : ∀ (ap : Option Addr) (al ac : Nat), oneI op dst an bn fn ar br ap al ac = ⟨o, d, r, n, r', n', f, if k then ap else none, if k then al else 0, if k then ac else 0⟩)
    (h : OnePost op dst an bn fn ar br al V e w') : ∃ p c, e = .returned (.tuple #[.agg #[.int .i64 o, .int .i64 d, .bool r, .int .i64 n, .bool r', .int .i64 n', .int .i64 f, .slice p (if k then al else 0) c], .agg #[.int .i64 0, .int .i64 0]]) ∧ Hid (ValsAt w' p (if k then al else 0) V) ∧ Hid (p = none → (if k then al else 0) = 0 ∧ c = 0) := by
  obtain ⟨o3, d3, r3, n3, s3, m3, f3, p3, l3, c3, ap, ac, rfl, hP, hV, hQ⟩ := h
  have hP2 := hP.out
  rw [hk] at hP2
  simp only [Inst.mk.injEq] at hP2
  obtain ⟨rfl, rfl, rfl, rfl, rfl, rfl, rfl, rfl, rfl, rfl⟩ := hP2
  refine ⟨_, _, rfl, ?_, ?_⟩
  · cases k
    · exact .inl rfl
    · exact hV
  · cases k
    · exact fun _ => ⟨rfl, rfl⟩
    · exact hQ
theorem InstPost.keep {op dst an bn fn : Int} {ar br : Bool} {o d : Int} {r : Bool} {n : Int} {r' : Bool} {n' f : Int} {k : Bool} {ap : Option Addr} {al ac : Nat} {V : Nat → Bool × Int} {e : Ending} {w : World}
    (hk : ∀ (ap : Option Addr) (al ac : Nat), oneI op dst an bn fn ar br ap al ac = ⟨o, d, r, n, r', n', f, if k then ap else none, if k then al else 0, if k then ac else 0⟩)
    (hv : ValsAt w ap al V) (h : InstPost (· = oneI op dst an bn fn ar br ap al ac) e) : ∃ p c, e = .returned (.agg #[.int .i64 o, .int .i64 d, .bool r, .int .i64 n, .bool r', .int .i64 n', .int .i64 f, .slice p (if k then al else 0) c]) ∧ Hid (ValsAt w p (if k then al else 0) V) := by
  obtain ⟨o3, d3, r3, n3, s3, m3, f3, p3, l3, c3, rfl, hP⟩ := h
  have hP2 : _ = _ := hP.out
  rw [hk] at hP2
  simp only [Inst.mk.injEq] at hP2
  obtain ⟨rfl, rfl, rfl, rfl, rfl, rfl, rfl, rfl, rfl, rfl⟩ := hP2
  refine ⟨_, _, rfl, ?_⟩
  cases k
  · exact .inl rfl
  · exact hv

end Go.Proofs.YtlalmbklhmpngaaDoor
