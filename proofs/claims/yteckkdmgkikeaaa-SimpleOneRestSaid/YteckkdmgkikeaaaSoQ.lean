/-
  The law SimpleOneRest, walked out of the contracts: the form of a form is itself.
-/
import Derived.Test.YteckkdmgkikeaaaSoN
import Derived.Test.YteckkdmgkikeaaaSoP
import Derived.WalkKit
import Derived.WalkSpells
import Derived.WalkLawsBesides
namespace Go.Proofs.Yteckkdmgkikeaaa
open Go.RowKit
attribute [local go_sem] World.cell?_alloc_some

set_option maxRecDepth 100000 in
set_option maxHeartbeats 1000000 in
theorem rest_bad (op dst an bn fn : Int) (ar br : Bool) (p : Option Addr) (l c : Nat) (w : World) (h : op < 1 ∨ 22 < op) :
    Calls Try.prog 4 #[.agg #[.int .i64 op, .int .i64 dst, .bool ar, .int .i64 an, .bool br, .int .i64 bn, .int .i64 fn, .slice p l c]] w fun e w' => e = .returned (.bool true) ∧ Below w.heap.size w w' := by
  have HO : Hid (op < 1 ∨ 22 < op) := h
  clear h
  go_enter Try.func4, Try.ntmps4
  go_wp2_with fail
  refine (One_bad _ _ _ _ _ _ _ _ _ _ _ HO.out).mono ?_
  rintro e w1 ⟨rfl, hb1⟩
  have HB1 : Hid (Below w.heap.size w w1) := ((Below.refl _ _).alloc (Nat.le_refl _) _).trans (hb1.mono (by simp))
  have hsz0 : w.heap.size < w1.heap.size := by have := hb1.size; simp at this; omega
  clear hb1
  go_wp2_with fail
  refine (ins_same 0 0 0 0 0 false false none none 0 0 0 (fun _ => (false, 0)) _ (by omega) (.inl rfl) (.inl rfl)).mono ?_
  rintro e w5 ⟨rfl, hb5⟩
  go_wp2
  go_ret
  refine ⟨rfl, ?_⟩
  repeat (first | with_reducible exact Below.refl _ _ | with_reducible exact HB3.out | with_reducible refine Below.drew ?_ | with_reducible refine below_drewN ?_ _ | with_reducible refine Below.setCell ?_ ?_ _ | with_reducible refine Below.alloc ?_ ?_ _ | with_reducible exact HB2.out | with_reducible exact HB1.out | with_reducible refine Below.trans ?_ (Below.mono hb3 ?_) | with_reducible refine Below.trans ?_ (Below.mono hb5 ?_) | with_reducible refine Below.trans ?_ (Below.mono hb4 ?_) | omega | (simp; omega) | simp)

theorem rest_keeps {op dst an bn fn : Int} {ar br : Bool} {o d : Int} {r : Bool} {n : Int} {r' : Bool} {n' f : Int} {k : Bool}
    (hk : ∀ (ap : Option Addr) (al ac : Nat), oneI op dst an bn fn ar br ap al ac = ⟨o, d, r, n, r', n', f, if k then ap else none, if k then al else 0, if k then ac else 0⟩) :
    ∃ k2 : Bool, (∀ (ap : Option Addr) (al ac : Nat), oneI o d n n' f r r' ap al ac = ⟨o, d, r, n, r', n', f, if k2 then ap else none, if k2 then al else 0, if k2 then ac else 0⟩) ∧ (k = true → k2 = true) := by
  obtain ⟨o2, d2, r2, n2, s2, m2, f2, k2, hk2⟩ := oneI_keeps o d n n' f r r'
  have e := again_one op dst an bn fn ar br none 1 0
  unfold again at e
  rw [hk] at e
  cases k
  · simp only [Bool.false_eq_true, if_false] at e
    replace e := (hk2 none 0 0).symm.trans e
    simp only [Inst.mk.injEq] at e
    obtain ⟨rfl, rfl, rfl, rfl, rfl, rfl, rfl, _, _, _⟩ := e
    exact ⟨k2, hk2, fun h => by cases h⟩
  · simp only [if_true] at e
    replace e := (hk2 none 1 0).symm.trans e
    simp only [Inst.mk.injEq] at e
    obtain ⟨rfl, rfl, rfl, rfl, rfl, rfl, rfl, _, e1, _⟩ := e
    refine ⟨k2, hk2, fun _ => ?_⟩
    cases k2
    · simp at e1
    · rfl

set_option maxRecDepth 100000 in
set_option maxHeartbeats 1000000 in
theorem rest_good (op dst an bn fn : Int) (ar br : Bool) (p : Option Addr) (l c : Nat) (V : Nat → Bool × Int) (w : World) (h1 : 1 ≤ op) (h2 : op ≤ 22) (ha : I64 an) (hbn : I64 bn) (hl : l * 16 ≤ 140737488355328)
    (hs : p = none → l = 0 ∧ c = 0) (hv : ValsAt w p l V) :
    Calls Try.prog 4 #[.agg #[.int .i64 op, .int .i64 dst, .bool ar, .int .i64 an, .bool br, .int .i64 bn, .int .i64 fn, .slice p l c]] w fun e w' => e = .returned (.bool true) ∧ Below w.heap.size w w' := by
  obtain ⟨o, d, r, n, r', n', f, k, hk⟩ := oneI_keeps op dst an bn fn ar br
  obtain ⟨k2, hk2, hkk⟩ := rest_keeps hk
  have hop := oneI_op op dst an bn fn ar br none 0 0 ⟨h1, h2⟩
  rw [show oneI op dst an bn fn ar br none 0 0 = _ from hk none 0 0] at hop
  obtain ⟨ho1, ho2⟩ : 1 ≤ o ∧ o ≤ 22 := hop
  have hm : (if k then l else 0) * 16 ≤ 140737488355328 := by split <;> omega
  have hmm2 : (if k2 then (if k then l else 0) else 0) = (if k then l else 0) := by
    cases k
    · simp
    · rw [hkk rfl]; simp
  have HN : Hid (I64 n) := by
    have hx := oneI_an' (op := op) (dst := dst) (fn := fn) (ar := ar) (br := br) (ap := none) (al := 0) (ac := 0) ha hbn
    rw [show oneI op dst an bn fn ar br none 0 0 = _ from hk none 0 0] at hx
    exact hx
  have HK : Hid (∀ (ap : Option Addr) (al ac : Nat), oneI op dst an bn fn ar br ap al ac = ⟨o, d, r, n, r', n', f, if k then ap else none, if k then al else 0, if k then ac else 0⟩) := hk
  have HK2 : Hid (∀ (ap : Option Addr) (al ac : Nat), oneI o d n n' f r r' ap al ac = ⟨o, d, r, n, r', n', f, if k2 then ap else none, if k2 then al else 0, if k2 then ac else 0⟩) := hk2
  have HA : Hid (I64 an) := ha
  have HS : Hid (p = none → l = 0 ∧ c = 0) := hs
  have HV : Hid (ValsAt w p l V) := hv
  clear hk ha hs hv hkk hk2 hbn
  generalize hmm : (if k then l else 0) = m at hm hmm2
  have HM : Hid ((if k then l else 0) = m) := hmm
  have HM2 : Hid ((if k2 then m else 0) = m) := hmm2
  clear hmm hmm2
  go_enter Try.func4, Try.ntmps4
  go_wp2_with fail
  refine (One_any _ _ _ _ _ _ _ _ _ _ V _ h1 h2 HA.out hl HS.out (HV.out.below (by repeat (first | with_reducible exact Below.refl _ _ | with_reducible exact HB3.out | with_reducible refine Below.drew ?_ | with_reducible refine below_drewN ?_ _ | with_reducible refine Below.setCell ?_ ?_ _ | with_reducible refine Below.alloc ?_ ?_ _ | with_reducible exact HB2.out | with_reducible exact HB1.out | with_reducible refine Below.trans ?_ (Below.mono hb3 ?_) | with_reducible refine Below.trans ?_ (Below.mono hb5 ?_) | with_reducible refine Below.trans ?_ (Below.mono hb4 ?_) | omega | (simp; omega) | simp)))).mono ?_
  rintro e w1 ⟨hpost, hb1⟩
  obtain ⟨p1, c1, rfl, hV1, hQ1⟩ := hpost.keep HK.out
  rw [HM.out] at hV1 hQ1
  rw [HM.out]
  have HB1 : Hid (Below w.heap.size w w1) := ((Below.refl _ _).alloc (Nat.le_refl _) _).trans (hb1.mono (by simp))
  have hsz0 : w.heap.size < w1.heap.size := by have := hb1.size; simp at this; omega
  clear hb1 hpost
  have hsz3 : w1.heap.size < w1.heap.size + 1 := by omega
  go_wp2_with fail
  refine (One_any _ _ _ _ _ _ _ _ _ _ V _ ho1 ho2 HN.out hm hQ1.out (hV1.out.below (by repeat (first | with_reducible exact Below.refl _ _ | with_reducible exact HB3.out | with_reducible refine Below.drew ?_ | with_reducible refine below_drewN ?_ _ | with_reducible refine Below.setCell ?_ ?_ _ | with_reducible refine Below.alloc ?_ ?_ _ | with_reducible exact HB2.out | with_reducible exact HB1.out | with_reducible refine Below.trans ?_ (Below.mono hb3 ?_) | with_reducible refine Below.trans ?_ (Below.mono hb5 ?_) | with_reducible refine Below.trans ?_ (Below.mono hb4 ?_) | omega | (simp; omega) | simp)))).mono ?_
  rintro e w2 ⟨hpost2, hb2⟩
  obtain ⟨p2, c2, rfl, hV2, _⟩ := hpost2.keep HK2.out
  rw [HM2.out] at hV2
  rw [HM2.out]
  have HX : Hid (w2.heap[w1.heap.size]? = some (.cells #[.int .i64 o, .int .i64 d, .bool r, .int .i64 n, .bool r', .int .i64 n', .int .i64 f, .slice p1 m c1] 26)) := heap_below (k := w1.heap.size) hb2 (by first | (simp; done) | (simp; omega)) (heap_step (heap_at rfl))
  obtain ⟨cb, fb⟩ := blk HX.out
  have HB2 : Hid (Below w.heap.size w w2) := (((HB1.out.alloc HB1.out.size _).alloc (by have := HB1.out.size; simp; omega) _)).trans (hb2.mono (by have := HB1.out.size; simp; omega))
  have HB3 : Hid (Below w1.heap.size w1 w2) := (((Below.refl _ _).alloc (Nat.le_refl _) _).alloc (by simp) _).trans (hb2.mono (by simp; omega))
  have hsz4 : w1.heap.size < w2.heap.size := by have := hb2.size; simp at this; omega
  clear hb2 hpost2
  have hm2 : m ≤ 140737488355328 := by omega
  go_wp2_with fail
  refine (ins_same _ _ _ _ _ _ _ _ _ _ _ _ V _ hm2 (hV1.out.below ?_) (hV2.out.below ?_)).mono ?_
  · repeat (first | with_reducible exact Below.refl _ _ | with_reducible exact HB3.out | with_reducible refine Below.drew ?_ | with_reducible refine below_drewN ?_ _ | with_reducible refine Below.setCell ?_ ?_ _ | with_reducible refine Below.alloc ?_ ?_ _ | with_reducible exact HB2.out | with_reducible exact HB1.out | with_reducible refine Below.trans ?_ (Below.mono hb3 ?_) | with_reducible refine Below.trans ?_ (Below.mono hb5 ?_) | with_reducible refine Below.trans ?_ (Below.mono hb4 ?_) | omega | (simp; omega) | simp)
  · repeat (first | with_reducible exact Below.refl _ _ | with_reducible exact HB3.out | with_reducible refine Below.drew ?_ | with_reducible refine below_drewN ?_ _ | with_reducible refine Below.setCell ?_ ?_ _ | with_reducible refine Below.alloc ?_ ?_ _ | with_reducible exact HB2.out | with_reducible exact HB1.out | with_reducible refine Below.trans ?_ (Below.mono hb3 ?_) | with_reducible refine Below.trans ?_ (Below.mono hb5 ?_) | with_reducible refine Below.trans ?_ (Below.mono hb4 ?_) | omega | (simp; omega) | simp)
  rintro e w5 ⟨rfl, hb5⟩
  obtain ⟨cx, fx⟩ := blk (heap_below (k := w1.heap.size) hb5 (by first | (simp; done) | (simp; omega)) (heap_step (heap_step HX.out)))
  have ho3 : 0 < o := by omega
  go_wp2
  go_ret
  refine ⟨by simp, ?_⟩
  repeat (first | with_reducible exact Below.refl _ _ | with_reducible exact HB3.out | with_reducible refine Below.drew ?_ | with_reducible refine below_drewN ?_ _ | with_reducible refine Below.setCell ?_ ?_ _ | with_reducible refine Below.alloc ?_ ?_ _ | with_reducible exact HB2.out | with_reducible exact HB1.out | with_reducible refine Below.trans ?_ (Below.mono hb3 ?_) | with_reducible refine Below.trans ?_ (Below.mono hb5 ?_) | with_reducible refine Below.trans ?_ (Below.mono hb4 ?_) | omega | (simp; omega) | simp)
end Go.Proofs.Yteckkdmgkikeaaa
