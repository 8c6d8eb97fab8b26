/-
  The laws SimpleOneSays and SimpleOneRest, walked out of the contracts.
-/
import Derived.Test.YteckkdmgkikeaaaSoL
import Derived.Test.YteckkdmgkikeaaaSoH
import Derived.Test.YteckkdmgkikeaaaSoE
import Derived.BigQuiet
import Derived.Deep.QuietTactic
import Derived.Deep.RegionWith
import Derived.Deep.RegionHeld
import Derived.WalkKit
import Derived.WalkSpells
import Derived.WalkLawsBesides
namespace Go.Proofs.Yteckkdmgkikeaaa
open Go.RowKit
attribute [local go_sem] World.cell?_alloc_some

/-- the form keeps its arguments, or has none: whichever they are -/
def Keeps (F : Option Addr → Nat → Nat → Inst) : Prop := ∃ (o d : Int) (r : Bool) (n : Int) (r' : Bool) (n' f : Int) (k : Bool), ∀ (ap : Option Addr) (al ac : Nat),
    F ap al ac = ⟨o, d, r, n, r', n', f, if k then ap else none, if k then al else 0, if k then ac else 0⟩
theorem keeps_ite {c : Prop} [Decidable c] {A B : Option Addr → Nat → Nat → Inst} (ha : Keeps A) (hb : Keeps B) : Keeps fun ap al ac => if c then A ap al ac else B ap al ac := by
  by_cases h : c
  · simp only [if_pos h]; exact ha
  · simp only [if_neg h]; exact hb
theorem oneI_keeps (op dst an bn fn : Int) (ar br : Bool) : Keeps fun ap al ac => oneI op dst an bn fn ar br ap al ac := by
  unfold oneI fixI ledI aliI one1
  repeat' (refine keeps_ite ?_ ?_)
  all_goals first
    | exact ⟨_, _, _, _, _, _, _, true, fun _ _ _ => rfl⟩
    | exact ⟨_, _, _, _, _, _, _, false, fun _ _ _ => rfl⟩

theorem OnePost.keep {op dst an bn fn : Int} {ar br : Bool} {o d : Int} {r : Bool} {n : Int} {r' : Bool} {n' f : Int} {k : Bool} {al : Nat} {V : Nat → Bool × Int} {e : Ending} {w' : World}
    (hk : ∀ (ap : Option Addr) (al ac : Nat), oneI op dst an bn fn ar br ap al ac = ⟨o, d, r, n, r', n', f, if k then ap else none, if k then al else 0, if k then ac else 0⟩)
    (h : OnePost op dst an bn fn ar br al V e w') : ∃ p c, e = .returned (.tuple #[.agg #[.int .i64 o, .int .i64 d, .bool r, .int .i64 n, .bool r', .int .i64 n', .int .i64 f, .slice p (if k then al else 0) c], .agg #[.int .i64 0, .int .i64 0]]) ∧ Hid (ValsAt w' p (if k then al else 0) V) ∧ Hid (p = none → (if k then al else 0) = 0 ∧ c = 0) := by
  obtain ⟨o3, d3, r3, n3, s3, m3, f3, p3, l3, c3, ap, ac, rfl, hP, hV, hQ⟩ := h
  have hP2 := hP.out
  rw [hk] at hP2
  simp only [Inst.mk.injEq] at hP2
  obtain ⟨rfl, rfl, rfl, rfl, rfl, rfl, rfl, rfl, rfl, rfl⟩ := hP2
  refine ⟨_, _, rfl, ?_, ?_⟩
  · cases k
    · exact .inl rfl
    · exact hV
  · cases k
    · exact fun _ => ⟨rfl, rfl⟩
    · exact hQ
theorem InstPost.keep {op dst an bn fn : Int} {ar br : Bool} {o d : Int} {r : Bool} {n : Int} {r' : Bool} {n' f : Int} {k : Bool} {ap : Option Addr} {al ac : Nat} {V : Nat → Bool × Int} {e : Ending} {w : World}
    (hk : ∀ (ap : Option Addr) (al ac : Nat), oneI op dst an bn fn ar br ap al ac = ⟨o, d, r, n, r', n', f, if k then ap else none, if k then al else 0, if k then ac else 0⟩)
    (hv : ValsAt w ap al V) (h : InstPost (· = oneI op dst an bn fn ar br ap al ac) e) : ∃ p c, e = .returned (.agg #[.int .i64 o, .int .i64 d, .bool r, .int .i64 n, .bool r', .int .i64 n', .int .i64 f, .slice p (if k then al else 0) c]) ∧ Hid (ValsAt w p (if k then al else 0) V) := by
  obtain ⟨o3, d3, r3, n3, s3, m3, f3, p3, l3, c3, rfl, hP⟩ := h
  have hP2 : _ = _ := hP.out
  rw [hk] at hP2
  simp only [Inst.mk.injEq] at hP2
  obtain ⟨rfl, rfl, rfl, rfl, rfl, rfl, rfl, rfl, rfl, rfl⟩ := hP2
  refine ⟨_, _, rfl, ?_⟩
  cases k
  · exact .inl rfl
  · exact hv

set_option maxRecDepth 100000 in
set_option maxHeartbeats 1000000 in
theorem says_good (op dst an bn fn : Int) (ar br : Bool) (p : Option Addr) (l c : Nat) (V : Nat → Bool × Int) (w : World) (h1 : 1 ≤ op) (h2 : op ≤ 22) (ha : I64 an) (hl : l * 16 ≤ 140737488355328)
    (hs : p = none → l = 0 ∧ c = 0) (hv : ValsAt w p l V) :
    Calls Try.prog 3 #[.agg #[.int .i64 op, .int .i64 dst, .bool ar, .int .i64 an, .bool br, .int .i64 bn, .int .i64 fn, .slice p l c]] w fun e w' => e = .returned (.bool true) ∧ Below w.heap.size w w' := by
  have hq : ∀ w, (binOp .eql 28 (.agg #[.int .i64 4, .int .i64 0]) (.agg #[.int .i64 4, .int .i64 0])).run Try.prog w = .ok (.bool true) w := fun w => by rw [run_eqFault]; rfl
  obtain ⟨o, d, r, n, r', n', f, k, hk⟩ := oneI_keeps op dst an bn fn ar br
  have hm : (if k then l else 0) ≤ 140737488355328 := by split <;> omega
  have HK : Hid (∀ (ap : Option Addr) (al ac : Nat), oneI op dst an bn fn ar br ap al ac = ⟨o, d, r, n, r', n', f, if k then ap else none, if k then al else 0, if k then ac else 0⟩) := hk
  have HA : Hid (I64 an) := ha
  have HS : Hid (p = none → l = 0 ∧ c = 0) := hs
  have HV : Hid (ValsAt w p l V) := hv
  clear hk ha hs hv
  generalize hmm : (if k then l else 0) = m at hm
  have HM : Hid ((if k then l else 0) = m) := hmm
  clear hmm
  go_enter Try.func3, Try.ntmps3
  go_wp2_with fail
  refine (One_any _ _ _ _ _ _ _ _ _ _ V _ h1 h2 HA.out hl HS.out (HV.out.below (by repeat (first | with_reducible exact Below.refl _ _ | with_reducible exact HB3.out | with_reducible refine Below.drew ?_ | with_reducible refine below_drewN ?_ _ | with_reducible refine Below.setCell ?_ ?_ _ | with_reducible refine Below.alloc ?_ ?_ _ | with_reducible exact HB2.out | with_reducible exact HB1.out | with_reducible refine Below.trans ?_ (Below.mono hb3 ?_) | with_reducible refine Below.trans ?_ (Below.mono hb5 ?_) | with_reducible refine Below.trans ?_ (Below.mono hb4 ?_) | omega | (simp; omega) | simp)))).mono ?_
  rintro e w1 ⟨hpost, hb1⟩
  obtain ⟨p1, c1, rfl, hV1, _⟩ := hpost.keep HK.out
  rw [HM.out] at hV1
  rw [HM.out]
  obtain ⟨ca, fa⟩ := blk (heap_below (k := w.heap.size) hb1 (by simp) (heap_at rfl))
  have HB1 : Hid (Below w.heap.size w w1) := ((Below.refl _ _).alloc (Nat.le_refl _) _).trans (hb1.mono (by simp))
  have hsz0 : w.heap.size < w1.heap.size := by have := hb1.size; simp at this; omega
  have hsz1 : w.heap.size < w1.heap.size + 1 := by omega
  have hsz2 : w.heap.size < w1.heap.size + 1 + 1 := by omega
  clear hb1 hpost
  go_wp2_with fail
  go_region_with (first
    | (go_at_call 8; refine (form_any _ _ _ _ _ _ _ _ _ _ _ HA.out).mono ?_; rintro e w4 ⟨hpost4, hb4⟩
       obtain ⟨p2, c2, rfl, hV2⟩ := hpost4.keep HK.out HV.out
       rw [HM.out] at hV2
       rw [HM.out]
       obtain ⟨cx, fx⟩ := blk (heap_below (k := w1.heap.size) hb4 (by first | (simp; done) | (simp; omega)) (heap_drew (heap_step (heap_at rfl))))
       have hsz4 := hb4.size; simp at hsz4
       clear hpost4)
    | (go_at_call 7; refine (ins_same _ _ _ _ _ _ _ _ _ _ _ _ V _ hm (hV1.out.below ?_) (hV2.out.below ?_)).mono ?_; (focus repeat (first | with_reducible exact Below.refl _ _ | with_reducible exact HB3.out | with_reducible refine Below.drew ?_ | with_reducible refine below_drewN ?_ _ | with_reducible refine Below.setCell ?_ ?_ _ | with_reducible refine Below.alloc ?_ ?_ _ | with_reducible exact HB2.out | with_reducible exact HB1.out | with_reducible refine Below.trans ?_ (Below.mono hb3 ?_) | with_reducible refine Below.trans ?_ (Below.mono hb5 ?_) | with_reducible refine Below.trans ?_ (Below.mono hb4 ?_) | omega | (simp; omega) | simp)); (focus repeat (first | with_reducible exact Below.refl _ _ | with_reducible exact HB3.out | with_reducible refine Below.drew ?_ | with_reducible refine below_drewN ?_ _ | with_reducible refine Below.setCell ?_ ?_ _ | with_reducible refine Below.alloc ?_ ?_ _ | with_reducible exact HB2.out | with_reducible exact HB1.out | with_reducible refine Below.trans ?_ (Below.mono hb3 ?_) | with_reducible refine Below.trans ?_ (Below.mono hb5 ?_) | with_reducible refine Below.trans ?_ (Below.mono hb4 ?_) | omega | (simp; omega) | simp)); rintro e w5 ⟨rfl, hb5⟩))
  all_goals (go_wp2; go_ret; refine ⟨rfl, ?_⟩)
  all_goals repeat (first | with_reducible exact Below.refl _ _ | with_reducible exact HB3.out | with_reducible refine Below.drew ?_ | with_reducible refine below_drewN ?_ _ | with_reducible refine Below.setCell ?_ ?_ _ | with_reducible refine Below.alloc ?_ ?_ _ | with_reducible exact HB2.out | with_reducible exact HB1.out | with_reducible refine Below.trans ?_ (Below.mono hb3 ?_) | with_reducible refine Below.trans ?_ (Below.mono hb5 ?_) | with_reducible refine Below.trans ?_ (Below.mono hb4 ?_) | omega | (simp; omega) | simp)
end Go.Proofs.Yteckkdmgkikeaaa
