/-
  The contract of simple.One: its form, over a copy of its arguments.
-/
import Derived.Test.YtlalmbklhmpngaaDoorBSoF
import Derived.Test.YtlalmbklhmpngaaDoorSoJ
import Derived.Laws.AppendOwnNone
import Derived.WalkKit
import Derived.WalkSpells
import Derived.WalkLawsBesides
namespace Go.Proofs.YtlalmbklhmpngaaDoor
open Go.RowKit

/-- the cells of n values -/
def flatV (V : Nat → Bool × Int) (n : Nat) : List Value := (List.range (n * 2)).map fun j => if j % 2 = 0 then .bool (V (j / 2)).1 else .int .i64 (V (j / 2)).2
theorem flatV_length (V : Nat → Bool × Int) (n : Nat) : (flatV V n).length = n * 2 := by simp [flatV]
theorem flatV_get (V : Nat → Bool × Int) (n j : Nat) (h : j < n * 2) : (flatV V n)[j]? = some (if j % 2 = 0 then .bool (V (j / 2)).1 else .int .i64 (V (j / 2)).2) := by
  simp [flatV, h]
theorem flatV_one (V : Nat → Bool × Int) (n : Nat) : ∀ u ∈ flatV V n, u.oneCell' = true := by
  intro u hu
  simp only [flatV, List.mem_map] at hu
  obtain ⟨j, _, rfl⟩ := hu
  split <;> rfl
theorem flatV_cells {V : Nat → Bool × Int} {n b o : Nat} {w : World} (h : ∀ i, i < n → w.cell? ⟨b, o + i * 2, none⟩ = some (.bool (V i).1) ∧ w.cell? ⟨b, o + i * 2 + 1, none⟩ = some (.int .i64 (V i).2)) :
    ∀ j u, (flatV V n)[j]? = some u → w.cell? ((⟨b, o, none⟩ : Addr).add j) = some u := by
  intro j u hu
  have hj : j < n * 2 := by
    rcases Nat.lt_or_ge j (n * 2) with g | g
    · exact g
    · rw [List.getElem?_eq_none (by rw [flatV_length]; exact g)] at hu; cases hu
  rw [flatV_get V n j hj] at hu
  obtain ⟨h0, h1⟩ := h (j / 2) (by omega)
  rcases Nat.mod_two_eq_zero_or_one j with hm | hm
  · rw [if_pos hm] at hu
    cases hu
    rw [← h0, show o + j / 2 * 2 = o + j by omega]
    by_cases hz : j = 0 <;> simp [Addr.add, hz]
  · rw [if_neg (by omega)] at hu
    cases hu
    rw [← h1, show o + j / 2 * 2 + 1 = o + j by omega]
    by_cases hz : j = 0 <;> simp [Addr.add, hz]
theorem flatV_at {V : Nat → Bool × Int} {n : Nat} {ad : Addr} {w : World} (h : ValsAt w (some ad) n V) : ∀ j u, (flatV V n)[j]? = some u → w.cell? (ad.add j) = some u := by
  rcases h with rfl | ⟨b, o, he, h⟩
  · intro j u hu; simp [flatV] at hu
  · cases he; exact flatV_cells h
/-- a slice of the call's own that holds the cells of n values -/
theorem own_vals {w : World} {base n : Nat} {v : Value} {V : Nat → Bool × Int} {E : TypeId} (h : w.ownsRow base E 2 v n (flatV V n)) :
    ∃ p c, v = .slice p n c ∧ ValsAt w p n V ∧ (∀ a, p = some a → base ≤ a.block) ∧ (p = none → n = 0 ∧ c = 0) := by
  obtain ⟨_, h⟩ := h
  rcases h with ⟨rfl, rfl⟩ | ⟨g, cap, cur, rfl, hbg, hg, hn, _, hs, ht⟩
  · exact ⟨none, 0, rfl, .inl rfl, fun _ h => (by cases h), fun _ => ⟨rfl, rfl⟩⟩
  · refine ⟨some ⟨g, 0, none⟩, cap, rfl, .inr ⟨g, 0, rfl, fun i hi => ?_⟩, fun a ha => (by cases ha; exact hbg), fun h => (by cases h)⟩
    have key : ∀ j u, (flatV V n)[j]? = some u → w.cell? ⟨g, j, none⟩ = some u := by
      intro j u hu
      rw [← ht] at hu
      rw [List.getElem?_take] at hu
      split at hu
      · unfold World.cell?
        rw [hg]
        simpa using hu
      · cases hu
    constructor
    · refine key _ _ ?_
      rw [flatV_get V n _ (by omega), if_pos (by omega), show (0 + i * 2) / 2 = i by omega]
    · refine key _ _ ?_
      rw [flatV_get V n _ (by omega), if_neg (by omega), show (0 + i * 2 + 1) / 2 = i by omega]

theorem ValsAt.setCell {w : World} {p : Option Addr} {l : Nat} {V : Nat → Bool × Int} {x : Addr} (h : ValsAt w p l V) (hp : ∀ a, p = some a → a.block ≠ x.block) (v : Value) : ValsAt (w.setCell x v) p l V := by
  rcases h with h | ⟨b, o, rfl, h⟩
  · exact .inl h
  · have hb := hp _ rfl
    refine .inr ⟨b, o, rfl, fun i hi => ?_⟩
    obtain ⟨h0, h1⟩ := h i hi
    exact ⟨(World.cell?_setCell_other _ _ _ _ (by rintro rfl; exact hb rfl)).trans h0, (World.cell?_setCell_other _ _ _ _ (by rintro rfl; exact hb rfl)).trans h1⟩

theorem own_lit0 {w : World} {base k size : Nat} {e : TypeId} (hk : w.heap.size = k) (hb : base ≤ k) : (w.alloc (.cells #[] e)).ownsRow base e size (.slice (some ⟨k, 0, none⟩) 0 0) 0 [] := by
  subst hk
  exact World.ownsRow_lit w #[] 0 hb (by decide) (by simp)

theorem infoVal : (Tryd.prog.info? 23).map (fun i => (i.zero, i.size, i.bytes)) = some (some (.agg #[.bool false, .int .i64 0]), 2, 16) := by kernel_rfl

/-- behind an append to a row of the call's own -/
theorem gcell {W w1 : World} {k : Nat} (hg : W.grownBy w1 (some k)) : (∀ b o, b < W.heap.size → b ≠ k → w1.cell? ⟨b, o, none⟩ = W.cell? ⟨b, o, none⟩) ∧ (∀ b o, b < W.heap.size → b ≠ k → w1.frozen? ⟨b, o, none⟩ = W.frozen? ⟨b, o, none⟩) ∧ W.heap.size ≤ w1.heap.size :=
  ⟨fun b o h hn => World.cell?_of_block (hg.block b h (by simpa using hn)), fun b o h hn => World.frozen?_of_block (hg.block b h (by simpa using hn)), hg.size⟩

/-- what One hands back where there is an instruction: the form of the instruction over the copy of its arguments -/
def OnePost (op dst an bn fn : Int) (ar br : Bool) (al : Nat) (V : Nat → Bool × Int) (e : Ending) (w' : World) : Prop :=
  ∃ (o d : Int) (r : Bool) (n : Int) (r' : Bool) (n' f : Int) (p : Option Addr) (l c : Nat) (ap : Option Addr) (ac : Nat),
    e = .returned (.tuple #[.agg #[.int .i64 o, .int .i64 d, .bool r, .int .i64 n, .bool r', .int .i64 n', .int .i64 f, .slice p l c], .agg #[.int .i64 0, .int .i64 0]]) ∧
    Hid ((⟨o, d, r, n, r', n', f, p, l, c⟩ : Inst) = oneI op dst an bn fn ar br ap al ac) ∧ Hid (ValsAt w' ap al V) ∧ Hid (ap = none → al = 0 ∧ ac = 0)

set_option maxRecDepth 100000 in
set_option maxHeartbeats 1000000 in
theorem One_some (op dst an bn fn : Int) (ar br : Bool) (ad : Addr) (al ac : Nat) (V : Nat → Bool × Int) (w : World) (h1 : 1 ≤ op) (h2 : op ≤ 22) (ha : I64 an) (hl : al * 16 ≤ 140737488355328)
    (hc : ValsAt w (some ad) al V) :
    Calls Tryd.prog 15 #[.agg #[.int .i64 op, .int .i64 dst, .bool ar, .int .i64 an, .bool br, .int .i64 bn, .int .i64 fn, .slice (some ad) al ac]] w fun e w' => OnePost op dst an bn fn ar br al V e w' ∧ Below w.heap.size w w' := by
  have HA : Hid (I64 an) := ha
  have HC : Hid (ValsAt w (some ad) al V) := hc
  clear hc ha
  obtain ⟨i0, hi, hz0, hz1, hz2⟩ := info_parts infoVal
  go_enter Tryd.func15, Tryd.ntmps15
  go_wp2_with (first
    | (at_builtin; go_must (refine wpList_append_own _ rfl (.tmp 14) (.tmp 16) 24 rfl (w.heap.size + 1 + 1 + 1) 23 i0 _ 2 16 Tryd.underlying24 hi hz0 hz1 hz2 rfl (by decide) _ 0 [] rfl ?c0 ad al ac (flatV V al) rfl ?c1 ?c2 ?c3 ?c4 ?c5 ?c6 ?_)))
  case c0 =>
    exact own_lit0 (by simp) (by omega)
  case c1 => exact flatV_length V al
  case c3 => exact flatV_one V al
  case c4 => unfold maxLen; omega
  case c5 => omega
  case c6 => simp only [World.size_alloc]; omega
  case c2 =>
    refine flatV_at (HC.out.below ?_)
    repeat (first | with_reducible exact Below.refl _ _ | with_reducible exact HB3.out | with_reducible refine Below.drew ?_ | with_reducible refine below_drewN ?_ _ | with_reducible refine Below.setCell ?_ ?_ _ | with_reducible refine Below.alloc ?_ ?_ _ | with_reducible exact HB2.out | with_reducible exact HB1.out | with_reducible refine Below.trans ?_ (Below.mono hb3 ?_) | with_reducible refine Below.trans ?_ (Below.mono hb5 ?_) | with_reducible refine Below.trans ?_ (Below.mono hb4 ?_) | omega | (simp; omega) | simp)
  intro v1 w1 hown1 hg1 hnil
  clear hnil
  obtain ⟨p1, c1, hv1, hV1, hp1, hq1⟩ := own_vals (V := V) (n := al) (by simpa using hown1)
  obtain ⟨ca, fa⟩ := blk (heap_grown (k := w.heap.size) (r := w.heap.size + 1 + 1 + 1) hg1 (by omega) (heap_step (heap_step (heap_step (heap_at rfl)))))
  obtain ⟨cb, fb⟩ := blk (heap_grown (k := w.heap.size + 1) (r := w.heap.size + 1 + 1 + 1) hg1 (by omega) (heap_step (heap_step (heap_at (by simp)))))
  obtain ⟨cc, fc⟩ := blk (heap_grown (k := w.heap.size + 1 + 1) (r := w.heap.size + 1 + 1 + 1) hg1 (by omega) (heap_step (heap_at (by simp))))
  have hsz : w.heap.size + 1 + 1 < w1.heap.size := by have := hg1.size; simp at this; omega
  have hB1 : Below w.heap.size w w1 := by
    refine Below.grown (row := some (w.heap.size + 1 + 1 + 1)) ?_ hg1 ?_ ?_
    · repeat (first | with_reducible exact Below.refl _ _ | with_reducible exact HB3.out | with_reducible refine Below.drew ?_ | with_reducible refine below_drewN ?_ _ | with_reducible refine Below.setCell ?_ ?_ _ | with_reducible refine Below.alloc ?_ ?_ _ | with_reducible exact HB2.out | with_reducible exact HB1.out | with_reducible refine Below.trans ?_ (Below.mono hb3 ?_) | with_reducible refine Below.trans ?_ (Below.mono hb5 ?_) | with_reducible refine Below.trans ?_ (Below.mono hb4 ?_) | omega | (simp; omega) | simp)
    · simp only [World.size_alloc]; omega
    · intro k hk; cases hk; omega
  have HV1 : Hid (ValsAt w1 p1 al V) := hV1
  have HQ1 : Hid (p1 = none → al = 0 ∧ c1 = 0) := hq1
  have HP1 : Hid (∀ a, p1 = some a → w.heap.size + 1 + 1 + 1 ≤ a.block) := hp1
  have HB1 : Hid (Below w.heap.size w w1) := hB1
  clear hown1 hg1 hV1 hB1 hp1 hq1
  rw [hv1]
  clear hv1
  go_wp2_with fail
  refine (one_any _ _ _ _ _ _ _ _ _ _ _ HA.out).mono ?_
  rintro e w3 ⟨⟨o3, d3, r3, n3, s3, m3, f3, p3, l3, c3, rfl, hP3⟩, hb3⟩
  have cb3 : ∀ j, w3.cell? ⟨w.heap.size + 1, j, none⟩ = _ := fun j => (hb3.cell (p := ⟨w.heap.size + 1, j, none⟩) (by simp; omega)).trans ((World.cell?_setCell_other _ _ _ _ (by simp)).trans (cb j))
  have fb3 : ∀ j, w3.frozen? ⟨w.heap.size + 1, j, none⟩ = false := fun j => (hb3.frozen (p := ⟨w.heap.size + 1, j, none⟩) (by simp; omega)).trans (by simpa using fb j)
  have cc3 : ∀ j, w3.cell? ⟨w.heap.size + 1 + 1, j, none⟩ = _ := fun j => (hb3.cell (p := ⟨w.heap.size + 1 + 1, j, none⟩) (by simp; omega)).trans ((World.cell?_setCell_other _ _ _ _ (by simp)).trans (cc j))
  have fc3 : ∀ j, w3.frozen? ⟨w.heap.size + 1 + 1, j, none⟩ = false := fun j => (hb3.frozen (p := ⟨w.heap.size + 1 + 1, j, none⟩) (by simp; omega)).trans (by simpa using fc j)
  have HB3 : Hid (Below w.heap.size w w3) := (HB1.out.setCell (by simp) _).trans (hb3.mono (by simp; omega))
  have HV3 : Hid (ValsAt w3 p1 al V) := (HV1.out.setCell (fun a ha => by have := HP1.out a ha; simp; omega) _).below hb3
  clear hb3 ca fa cb fb cc fc
  go_wp2_with fail
  refine bodyPost_ret (v := .tuple #[.agg #[.int .i64 o3, .int .i64 d3, .bool r3, .int .i64 n3, .bool s3, .int .i64 m3, .int .i64 f3, .slice p3 l3 c3], .agg #[.int .i64 0, .int .i64 0]]) ?_ rfl ⟨⟨o3, d3, r3, n3, s3, m3, f3, p3, l3, c3, p1, c1, rfl, hP3, ?_, HQ1⟩, ?_⟩
  · simp [results, Tryd.results15, go_sem, cb3, cc3]
  · show ValsAt _ _ _ _
    repeat (with_reducible refine ValsAt.setCell ?_ (fun a ha => by have := HP1.out a ha; simp; omega) _)
    exact HV3.out
  · repeat (first | with_reducible exact Below.refl _ _ | with_reducible exact HB3.out | with_reducible refine Below.drew ?_ | with_reducible refine below_drewN ?_ _ | with_reducible refine Below.setCell ?_ ?_ _ | with_reducible refine Below.alloc ?_ ?_ _ | with_reducible exact HB2.out | with_reducible exact HB1.out | with_reducible refine Below.trans ?_ (Below.mono hb3 ?_) | with_reducible refine Below.trans ?_ (Below.mono hb5 ?_) | with_reducible refine Below.trans ?_ (Below.mono hb4 ?_) | omega | (simp; omega) | simp)
set_option maxRecDepth 100000 in
set_option maxHeartbeats 1000000 in
theorem One_nil (op dst an bn fn : Int) (ar br : Bool) (V : Nat → Bool × Int) (w : World) (h1 : 1 ≤ op) (h2 : op ≤ 22) (ha : I64 an) :
    Calls Tryd.prog 15 #[.agg #[.int .i64 op, .int .i64 dst, .bool ar, .int .i64 an, .bool br, .int .i64 bn, .int .i64 fn, .slice none 0 0]] w fun e w' => OnePost op dst an bn fn ar br 0 V e w' ∧ Below w.heap.size w w' := by
  have HA : Hid (I64 an) := ha
  clear ha
  obtain ⟨i0, hi, hz0, hz1, hz2⟩ := info_parts infoVal
  go_enter Tryd.func15, Tryd.ntmps15
  go_wp2_with (first
    | (at_builtin; refine wpList_append_own_none rfl (.tmp 14) (.tmp 16) 24 rfl (w.heap.size + 1 + 1 + 1) 23 i0 2 Tryd.underlying24 hi _ 0 [] rfl ?c0 rfl ?_))
  case c0 => exact own_lit0 (by simp) (by omega)
  go_wp2_with fail
  refine (one_any _ _ _ _ _ _ _ _ _ _ _ HA.out).mono ?_
  rintro e w3 ⟨⟨o3, d3, r3, n3, s3, m3, f3, p3, l3, c3, rfl, hP3⟩, hb3⟩
  have cb3 : ∀ j, w3.cell? ⟨w.heap.size + 1, j, none⟩ = _ := fun j => (hb3.cell (p := ⟨w.heap.size + 1, j, none⟩) (by simp)).trans ((blk (heap_step (heap_step (heap_at (by simp))))).1 j)
  have fb3 : ∀ j, w3.frozen? ⟨w.heap.size + 1, j, none⟩ = false := fun j => (hb3.frozen (p := ⟨w.heap.size + 1, j, none⟩) (by simp)).trans ((blk (heap_step (heap_step (heap_at (by simp))))).2 j)
  have cc3 : ∀ j, w3.cell? ⟨w.heap.size + 1 + 1, j, none⟩ = _ := fun j => (hb3.cell (p := ⟨w.heap.size + 1 + 1, j, none⟩) (by simp)).trans ((blk (heap_step (heap_at (by simp)))).1 j)
  have fc3 : ∀ j, w3.frozen? ⟨w.heap.size + 1 + 1, j, none⟩ = false := fun j => (hb3.frozen (p := ⟨w.heap.size + 1 + 1, j, none⟩) (by simp)).trans ((blk (heap_step (heap_at (by simp)))).2 j)
  have HB3 : Hid (Below w.heap.size w w3) := by
    show Below _ _ _
    repeat (first | with_reducible exact Below.refl _ _ | with_reducible exact HB3.out | with_reducible refine Below.drew ?_ | with_reducible refine below_drewN ?_ _ | with_reducible refine Below.setCell ?_ ?_ _ | with_reducible refine Below.alloc ?_ ?_ _ | with_reducible exact HB2.out | with_reducible exact HB1.out | with_reducible refine Below.trans ?_ (Below.mono hb3 ?_) | with_reducible refine Below.trans ?_ (Below.mono hb5 ?_) | with_reducible refine Below.trans ?_ (Below.mono hb4 ?_) | omega | (simp; omega) | simp)
  clear hb3
  go_wp2_with fail
  refine bodyPost_ret (v := .tuple #[.agg #[.int .i64 o3, .int .i64 d3, .bool r3, .int .i64 n3, .bool s3, .int .i64 m3, .int .i64 f3, .slice p3 l3 c3], .agg #[.int .i64 0, .int .i64 0]]) ?_ rfl ⟨⟨o3, d3, r3, n3, s3, m3, f3, p3, l3, c3, _, _, rfl, hP3, .inl rfl, fun h => by cases h⟩, ?_⟩
  · simp [results, Tryd.results15, go_sem, cb3, cc3]
  · repeat (first | with_reducible exact Below.refl _ _ | with_reducible exact HB3.out | with_reducible refine Below.drew ?_ | with_reducible refine below_drewN ?_ _ | with_reducible refine Below.setCell ?_ ?_ _ | with_reducible refine Below.alloc ?_ ?_ _ | with_reducible exact HB2.out | with_reducible exact HB1.out | with_reducible refine Below.trans ?_ (Below.mono hb3 ?_) | with_reducible refine Below.trans ?_ (Below.mono hb5 ?_) | with_reducible refine Below.trans ?_ (Below.mono hb4 ?_) | omega | (simp; omega) | simp)
theorem One_any (op dst an bn fn : Int) (ar br : Bool) (p : Option Addr) (l c : Nat) (V : Nat → Bool × Int) (w : World) (h1 : 1 ≤ op) (h2 : op ≤ 22) (ha : I64 an) (hl : l * 16 ≤ 140737488355328)
    (hs : p = none → l = 0 ∧ c = 0) (hv : ValsAt w p l V) :
    Calls Tryd.prog 15 #[.agg #[.int .i64 op, .int .i64 dst, .bool ar, .int .i64 an, .bool br, .int .i64 bn, .int .i64 fn, .slice p l c]] w fun e w' => OnePost op dst an bn fn ar br l V e w' ∧ Below w.heap.size w w' := by
  rcases p with _ | ad
  · obtain ⟨rfl, rfl⟩ := hs rfl
    exact One_nil op dst an bn fn ar br V w h1 h2 ha
  · exact One_some op dst an bn fn ar br ad l c V w h1 h2 ha hl hv

set_option maxHeartbeats 400000 in
theorem One_bad (op dst an bn fn : Int) (ar br : Bool) (p : Option Addr) (l c : Nat) (w : World) (h : op < 1 ∨ 22 < op) :
    Calls Tryd.prog 15 #[.agg #[.int .i64 op, .int .i64 dst, .bool ar, .int .i64 an, .bool br, .int .i64 bn, .int .i64 fn, .slice p l c]] w fun e w' => e = .returned (.tuple #[.agg #[.int .i64 0, .int .i64 0, .bool false, .int .i64 0, .bool false, .int .i64 0, .int .i64 0, .slice none 0 0], .agg #[.int .i64 4, .int .i64 0]]) ∧ Below w.heap.size w w' := by
  rcases h with h | h
  all_goals
    go_enter Tryd.func15, Tryd.ntmps15
    go_wp2
    all_goals (refine bodyPost_ret ?_ rfl ⟨rfl, ?_⟩; (focus (simp [results, Tryd.results15, go_sem])); repeat (first | with_reducible exact Below.refl _ _ | with_reducible exact HB3.out | with_reducible refine Below.drew ?_ | with_reducible refine below_drewN ?_ _ | with_reducible refine Below.setCell ?_ ?_ _ | with_reducible refine Below.alloc ?_ ?_ _ | with_reducible exact HB2.out | with_reducible exact HB1.out | with_reducible refine Below.trans ?_ (Below.mono hb3 ?_) | with_reducible refine Below.trans ?_ (Below.mono hb5 ?_) | with_reducible refine Below.trans ?_ (Below.mono hb4 ?_) | omega | (simp; omega) | simp))
end Go.Proofs.YtlalmbklhmpngaaDoor
