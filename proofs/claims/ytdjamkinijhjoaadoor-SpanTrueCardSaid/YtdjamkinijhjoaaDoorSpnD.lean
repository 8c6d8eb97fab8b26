/-
  The contracts of span.shifted and span.test.
-/
import Derived.WalkKit
import Derived.WalkSpells
import Derived.WalkLawsBesides
import Derived.Test.YtdjamkinijhjoaaDoorJSpnC
namespace Go.Proofs.YtdjamkinijhjoaaDoor
open Go.RowKit Go.Shelf Go.Lib

theorem beq_dec (a c : Int) : decide (a = c) = (a == c) := by rw [Bool.eq_iff_iff]; simp
theorem spanSure_x (a b : Bool) (w : World) :
  Calls Tryd.prog 129 #[.bool a, .bool b] w fun e w' => e = .returned (.agg #[.int .i64 (sureS a b).lo, .int .i64 (sureS a b).hi, .bool (sureS a b).has]) ∧ w' = (w.alloc (.cells #[.int .i64 (sureS a b).lo, .int .i64 (sureS a b).hi, .bool (sureS a b).has] 74)).alloc (.cells #[.int .i64 (sureS a b).lo, .int .i64 (sureS a b).hi, .bool (sureS a b).has] 74) := spanSure_any a b w
theorem oneS_yes (a : Int) : oneS ⟨a, a, true⟩ = true := by simp [oneS]
theorem oneS_no {a b : Int} (h : ¬ a = b) : oneS ⟨a, b, true⟩ = false := by simp [oneS, h]
set_option maxRecDepth 100000 in
set_option maxHeartbeats 2000000 in
theorem spanShift_any (op : Int) (x y : Spn) (w : World) (hop : op = 10 ∨ op = 11) (hx : SpOk x) (hy : SpOk y) (hxh : x.has = true) (hyh : y.has = true) (hA : AllW w) :
  Calls Tryd.prog 98 #[.int .i64 op, .agg (spC x), .agg (spC y)] w fun e w' => e = .returned (.agg (spC (shfS op x y))) ∧ Below w.heap.size w w' := by
 have xle := hx.le hxh
 have yle := hy.le hyh
 obtain ⟨x1, x2⟩ := hx.lo
 obtain ⟨x3, x4⟩ := hx.hi
 obtain ⟨y1, y2⟩ := hy.lo
 obtain ⟨y3, y4⟩ := hy.hi
 clear hx hy
 obtain ⟨a, b, s⟩ := x
 obtain ⟨c, d, s2⟩ := y
 simp only at hxh hyh xle yle x1 x2 x3 x4 y1 y2 y3 y4
 subst hxh hyh
 obtain ⟨g0, g1, g2⟩ := hA
 have zg := lt_of_cell g0
 have h63 := i64_and63 c
 have h64 : (c % 64 < 0) = False := by simp; omega
 have hwr : ∀ n, IntKind.i64.wrap n = wrap64 n := IntWalk.i64_left
 have hwu : IntKind.u64.wrap (c % 64) = c % 64 := by rw [IntKind.wrap_u64]; omega
 have hsg : IntKind.i64.signed = true := rfl
 rcases hop with rfl | rfl
 ·by_cases hab : a = b
  ·by_cases hcd : c = d
   ·subst hab hcd
    have HD := hidI (show shfS 10 ⟨a, a, true⟩ ⟨c, c, true⟩ = ofS (wrap64 (a * 2 ^ (c % 64).toNat)) (wrap64 (a * 2 ^ (c % 64).toNat)) from by unfold shfS; simp; rfl)
    have hshl := fun k => shift_shl .i64 k a (c % 64) (by omega) (by show c % 64 ≤ ((64 : Nat) : Int); omega)
    have o1 := oneS_yes a
    have o2 := oneS_yes c
    have one1 := fun w => spanOne_any ⟨a, a, true⟩ w
    simp only [spC, o1] at one1
    have HO1 := hidI one1
    clear one1 o1
    have one2 := fun w => spanOne_any ⟨c, c, true⟩ w
    simp only [spC, o2] at one2
    have HO2 := hidI one2
    clear one2 o2
    simp only [spC]
    go_enter Tryd.func98, Tryd.ntmps98
    go_wp2_with (first | (go_at_call 127; first | ((with_reducible refine (HO1.out _).mono ?_); rintro e w1 ⟨rfl, rfl⟩) | ((with_reducible refine (HO2.out _).mono ?_); rintro e w1 ⟨rfl, rfl⟩)) | (go_at_call 50; refine (spanJust_any _ _).mono ?_; rintro e w1 ⟨rfl, rfl⟩))
    all_goals
     refine bodyPost_ret ?_ rfl ⟨by rw [HD.out], ?_⟩
     ·first
       | (simp [results, Tryd.results98, go_sem, ofS]; done)
       | (simp [results, Tryd.results98, go_sem, spC, ofS]; omega)
     ·repeat (first | (with_reducible first | exact bR _ _ | exact bH ‹_› | refine bD ?_ | refine bN ?_ _ | refine bS ?_ ?_ _ | refine bA ?_ ?_ _ | refine bT hb3 ?_ ?_ | refine bT hb5 ?_ ?_ | refine bT hb4 ?_ ?_) | omega | (simp; omega) | simp)
   ·subst hab
    have HD := hidI (show shfS 10 ⟨a, a, true⟩ ⟨c, d, true⟩ = allS from by unfold shfS; simp [hcd])
    have o1 := oneS_yes a
    have o2 := oneS_no hcd
    have one1 := fun w => spanOne_any ⟨a, a, true⟩ w
    simp only [spC, o1] at one1
    have HO1 := hidI one1
    clear one1 o1
    have one2 := fun w => spanOne_any ⟨c, d, true⟩ w
    simp only [spC, o2] at one2
    have HO2 := hidI one2
    clear one2 o2
    simp only [spC]
    go_enter Tryd.func98, Tryd.ntmps98
    go_wp2_with (go_at_call 127; first | ((with_reducible refine (HO1.out _).mono ?_); rintro e w1 ⟨rfl, rfl⟩) | ((with_reducible refine (HO2.out _).mono ?_); rintro e w1 ⟨rfl, rfl⟩))
    all_goals
     refine bodyPost_ret ?_ rfl ⟨by rw [HD.out], ?_⟩
     ·first
       | (simp [results, Tryd.results98, go_sem, allS, minI, maxI]; done)
       | (simp [results, Tryd.results98, go_sem, spC, ofS]; omega)
     ·repeat (first | (with_reducible first | exact bR _ _ | exact bH ‹_› | refine bD ?_ | refine bN ?_ _ | refine bS ?_ ?_ _ | refine bA ?_ ?_ _ | refine bT hb3 ?_ ?_ | refine bT hb5 ?_ ?_ | refine bT hb4 ?_ ?_) | omega | (simp; omega) | simp)
  ·have HD := hidI (show shfS 10 ⟨a, b, true⟩ ⟨c, d, true⟩ = allS from by unfold shfS; simp [hab])
   have o1 := oneS_no hab
   have one1 := fun w => spanOne_any ⟨a, b, true⟩ w
   simp only [spC, o1] at one1
   have HO1 := hidI one1
   clear one1 o1
   simp only [spC]
   go_enter Tryd.func98, Tryd.ntmps98
   go_wp2_with (go_at_call 127; first | ((with_reducible refine (HO1.out _).mono ?_); rintro e w1 ⟨rfl, rfl⟩))
   all_goals
    refine bodyPost_ret ?_ rfl ⟨by rw [HD.out], ?_⟩
    ·first
      | (simp [results, Tryd.results98, go_sem, allS, minI, maxI]; done)
      | (simp [results, Tryd.results98, go_sem, spC, ofS]; omega)
    ·repeat (first | (with_reducible first | exact bR _ _ | exact bH ‹_› | refine bD ?_ | refine bN ?_ _ | refine bS ?_ ?_ _ | refine bA ?_ ?_ _ | refine bT hb3 ?_ ?_ | refine bT hb5 ?_ ?_ | refine bT hb4 ?_ ?_) | omega | (simp; omega) | simp)
 ·by_cases hcd : c = d
  ·subst hcd
   have HD := hidI (show shfS 11 ⟨a, b, true⟩ ⟨c, c, true⟩ = ofS (a / 2 ^ (c % 64).toNat) (b / 2 ^ (c % 64).toNat) from by unfold shfS; simp; rfl)
   have hs1 := fun k => shift_shr .i64 k a (c % 64) (by omega) (by show c % 64 ≤ ((64 : Nat) : Int); omega)
   have hs2 := fun k => shift_shr .i64 k b (c % 64) (by omega) (by show c % 64 ≤ ((64 : Nat) : Int); omega)
   have o2 := oneS_yes c
   have one2 := fun w => spanOne_any ⟨c, c, true⟩ w
   simp only [spC, o2] at one2
   have HO2 := hidI one2
   clear one2 o2
   simp only [spC]
   go_enter Tryd.func98, Tryd.ntmps98
   go_wp2_with (go_at_call 127; first | ((with_reducible refine (HO2.out _).mono ?_); rintro e w1 ⟨rfl, rfl⟩))
   obtain ⟨W, hW⟩ : ∃ W, W = (((w.alloc (.cells #[.int .i64 a, .int .i64 b, .bool true] 74)).alloc (.cells #[.int .i64 c, .int .i64 c, .bool true] 74)).alloc (.cells #[.int .i64 0, .int .i64 0, .bool false] 74)).alloc (.cells #[.int .i64 c, .int .i64 c, .bool true] 74) := ⟨_, rfl⟩
   rw [← hW]
   have hb : Below w.heap.size w W := by rw [hW]; repeat (first | (with_reducible first | exact bR _ _ | exact bH ‹_› | refine bD ?_ | refine bN ?_ _ | refine bS ?_ ?_ _ | refine bA ?_ ?_ _ | refine bT hb3 ?_ ?_ | refine bT hb5 ?_ ?_ | refine bT hb4 ?_ ?_) | omega | (simp; omega) | simp)
   have hX : W.heap[w.heap.size]? = some (.cells #[.int .i64 a, .int .i64 b, .bool true] 74 (0, 0)) := by rw [hW]; exact heap_step (heap_step (heap_step (heap_here w _)))
   have hY : W.heap[w.heap.size + 1]? = some (.cells #[.int .i64 c, .int .i64 c, .bool true] 74 (0, 0)) := by rw [hW]; exact heap_step (heap_step (heap_at (by simp)))
   have hZ : W.heap[w.heap.size + 1 + 1]? = some (.cells #[.int .i64 0, .int .i64 0, .bool false] 74 (0, 0)) := by rw [hW]; exact heap_step (heap_at (by simp))
   have hAll : ∀ w', Below W.heap.size W w' → w'.cell? ⟨w.heap.size, 0, none⟩ = some (.int .i64 a) ∧ w'.cell? ⟨w.heap.size, 1, none⟩ = some (.int .i64 b) ∧ w'.cell? ⟨w.heap.size + 1, 0, none⟩ = some (.int .i64 c) ∧ w'.cell? ⟨w.heap.size + 1, 1, none⟩ = some (.int .i64 c) := fun w' h => by
    have h1 := (h.block _ (ltHeap hX)).trans hX
    have h2 := (h.block _ (ltHeap hY)).trans hY
    exact ⟨(blk h1).1 0, (blk h1).1 1, (blk h2).1 0, (blk h2).1 1⟩
   have HAll := hidI hAll
   have HZ := hidI hZ
   have HB := hidI hb
   clear hAll hX hY hZ hW hb
   refine wp_region_calm (S := fun w' => Below W.heap.size W w') (by kernel_rfl) 13 ?_
   refine takeZ 0 32 (.pointer (some ⟨w.heap.size, 0, none⟩)) rfl rfl (by kernel_rfl) (by kernel_rfl) (by kernel_rfl) (by kernel_rfl) (fun _ _ _ h => h) (Or.inl ⟨by rfl, fun w' h => ?_⟩) (Below.refl _ _).drew ?_
   ·obtain ⟨h1, h2, h3, h4⟩ := HAll.out w' h
    go_simp
   refine takeZ 1 33 (.int .i64 a) rfl rfl (by kernel_rfl) (by kernel_rfl) (by kernel_rfl) (by kernel_rfl) (fun _ _ _ h => h) (Or.inl ⟨by rfl, fun w' h => ?_⟩) (Below.refl _ _).drew ?_
   ·obtain ⟨h1, h2, h3, h4⟩ := HAll.out w' h
    go_simp
   refine takeZ 2 34 (.pointer (some ⟨w.heap.size + 1, 0, none⟩)) rfl rfl (by kernel_rfl) (by kernel_rfl) (by kernel_rfl) (by kernel_rfl) (fun _ _ _ h => h) (Or.inl ⟨by rfl, fun w' h => ?_⟩) (Below.refl _ _).drew ?_
   ·obtain ⟨h1, h2, h3, h4⟩ := HAll.out w' h
    go_simp
   refine takeZ 3 35 (.int .i64 c) rfl rfl (by kernel_rfl) (by kernel_rfl) (by kernel_rfl) (by kernel_rfl) (fun _ _ _ h => h) (Or.inl ⟨by rfl, fun w' h => ?_⟩) (Below.refl _ _).drew ?_
   ·obtain ⟨h1, h2, h3, h4⟩ := HAll.out w' h
    go_simp
   refine takeZ 4 36 (.int .i64 (c % 64)) rfl rfl (by kernel_rfl) (by kernel_rfl) (by kernel_rfl) (by kernel_rfl) (fun _ _ _ h => h) (Or.inl ⟨by rfl, fun w' h => ?_⟩) (Below.refl _ _).drew ?_
   ·obtain ⟨h1, h2, h3, h4⟩ := HAll.out w' h
    go_simp
   refine takeZ 5 37 (.int .i64 (a / 2 ^ (c % 64).toNat)) rfl rfl (by kernel_rfl) (by kernel_rfl) (by kernel_rfl) (by kernel_rfl) (fun _ _ _ h => h) (Or.inl ⟨by rfl, fun w' h => ?_⟩) (Below.refl _ _).drew ?_
   ·obtain ⟨h1, h2, h3, h4⟩ := HAll.out w' h
    go_simp
   refine takeZ 6 38 (.pointer (some ⟨w.heap.size, 1, none⟩)) rfl rfl (by kernel_rfl) (by kernel_rfl) (by kernel_rfl) (by kernel_rfl) (fun _ _ _ h => h) (Or.inl ⟨by rfl, fun w' h => ?_⟩) (Below.refl _ _).drew ?_
   ·obtain ⟨h1, h2, h3, h4⟩ := HAll.out w' h
    go_simp
   refine takeZ 7 39 (.int .i64 b) rfl rfl (by kernel_rfl) (by kernel_rfl) (by kernel_rfl) (by kernel_rfl) (fun _ _ _ h => h) (Or.inl ⟨by rfl, fun w' h => ?_⟩) (Below.refl _ _).drew ?_
   ·obtain ⟨h1, h2, h3, h4⟩ := HAll.out w' h
    go_simp
   refine takeZ 8 40 (.pointer (some ⟨w.heap.size + 1, 0, none⟩)) rfl rfl (by kernel_rfl) (by kernel_rfl) (by kernel_rfl) (by kernel_rfl) (fun _ _ _ h => h) (Or.inl ⟨by rfl, fun w' h => ?_⟩) (Below.refl _ _).drew ?_
   ·obtain ⟨h1, h2, h3, h4⟩ := HAll.out w' h
    go_simp
   refine takeZ 9 41 (.int .i64 c) rfl rfl (by kernel_rfl) (by kernel_rfl) (by kernel_rfl) (by kernel_rfl) (fun _ _ _ h => h) (Or.inl ⟨by rfl, fun w' h => ?_⟩) (Below.refl _ _).drew ?_
   ·obtain ⟨h1, h2, h3, h4⟩ := HAll.out w' h
    go_simp
   refine takeZ 10 42 (.int .i64 (c % 64)) rfl rfl (by kernel_rfl) (by kernel_rfl) (by kernel_rfl) (by kernel_rfl) (fun _ _ _ h => h) (Or.inl ⟨by rfl, fun w' h => ?_⟩) (Below.refl _ _).drew ?_
   ·obtain ⟨h1, h2, h3, h4⟩ := HAll.out w' h
    go_simp
   refine takeZ 11 43 (.int .i64 (b / 2 ^ (c % 64).toNat)) rfl rfl (by kernel_rfl) (by kernel_rfl) (by kernel_rfl) (by kernel_rfl) (fun _ _ _ h => h) (Or.inl ⟨by rfl, fun w' h => ?_⟩) (Below.refl _ _).drew ?_
   ·obtain ⟨h1, h2, h3, h4⟩ := HAll.out w' h
    go_simp
   refine stepZ_1 (i := 12) (by kernel_rfl) (stepZ_callTo 44 rfl rfl rfl (by go_simp) (spanFrom_any (a / 2 ^ (c % 64).toNat) (b / 2 ^ (c % 64).toNat) _) ?_)
   rintro e w4 ⟨rfl, hw4⟩
   have hb4 : Below W.heap.size W w4 := by rw [hw4]; exact (Below.refl _ W).drew.alloc (Nat.le_refl _) _
   clear hw4
   refine ⟨_, rfl, hb4, ?_⟩
   have hZ4 := (hb4.block _ (ltHeap HZ.out)).trans HZ.out
   have z4 := ltHeap hZ4
   have c0 := (blk hZ4).1 0
   have c1 := (blk hZ4).1 1
   have c2 := (blk hZ4).1 2
   have cf := (blk hZ4).2
   simp only [List.getElem?_toArray, List.getElem?_cons_zero, List.getElem?_cons_succ] at c0 c1 c2
   obtain ⟨W5, hW5⟩ : ∃ W5, W5 = ((w4.setCell ⟨w.heap.size + 1 + 1, 0, none⟩ (.int .i64 (a / 2 ^ (c % 64).toNat))).setCell ⟨w.heap.size + 1 + 1, 1, none⟩ (.int .i64 (b / 2 ^ (c % 64).toNat))).setCell ⟨w.heap.size + 1 + 1, 2, none⟩ (.bool true) := ⟨_, rfl⟩
   refine stepZ_1 (i := 13) (by kernel_rfl) (stepZ_skipNo W5 rfl rfl rfl (by rw [hW5]; go_simp) (fun h => absurd rfl h) (wpAnyZ_done (by kernel_rfl) ?_ _))
   have hZ5 : W5.heap[w.heap.size + 1 + 1]? = some (.cells #[.int .i64 (a / 2 ^ (c % 64).toNat), .int .i64 (b / 2 ^ (c % 64).toNat), .bool true] 74 (0, 0)) := by
    rw [hW5, row_set (row_set (row_set hZ4 0 _) 1 _) 2 _]
    rfl
   have hb5 : Below w.heap.size w W5 := by
    rw [hW5]
    exact (((HB.out.trans (hb4.mono HB.out.size)).setCell (by show w.heap.size ≤ w.heap.size + 1 + 1; omega) _).setCell (by show w.heap.size ≤ w.heap.size + 1 + 1; omega) _).setCell (by show w.heap.size ≤ w.heap.size + 1 + 1; omega) _
   have e0 : W5.cell? ⟨w.heap.size + 1 + 1, 0, none⟩ = some (.int .i64 (a / 2 ^ (c % 64).toNat)) := (blk hZ5).1 0
   have e1 : W5.cell? ⟨w.heap.size + 1 + 1, 1, none⟩ = some (.int .i64 (b / 2 ^ (c % 64).toNat)) := (blk hZ5).1 1
   have e2 : W5.cell? ⟨w.heap.size + 1 + 1, 2, none⟩ = some (.bool true) := (blk hZ5).1 2
   have HB5 := hidI hb5
   clear hW5 hZ5 hb5 hb4 hZ4 c0 c1 c2 cf z4
   simp only [calm, Exit.then]
   go_simp
   go_wp2_with fail
   refine bodyPost_ret (v := .agg #[.int .i64 (a / 2 ^ (c % 64).toNat), .int .i64 (b / 2 ^ (c % 64).toNat), .bool true]) ?_ rfl ⟨by rw [HD.out]; rfl, HB5.out⟩
   simp [results, Tryd.results98, go_sem, e0, e1, e2]
  ·have HD := hidI (show shfS 11 ⟨a, b, true⟩ ⟨c, d, true⟩ = ofS (min a 0) (max b (-1)) from by unfold shfS; simp [hcd])
   have o2 := oneS_no hcd
   have one2 := fun w => spanOne_any ⟨c, d, true⟩ w
   simp only [spC, o2] at one2
   have HO2 := hidI one2
   clear one2 o2
   simp only [spC]
   go_enter Tryd.func98, Tryd.ntmps98
   go_wp2_with (first | (go_at_call 127; first | ((with_reducible refine (HO2.out _).mono ?_); rintro e w1 ⟨rfl, rfl⟩)) | (go_at_call 85; refine (spanFrom_any _ _ _).mono ?_; rintro e w1 ⟨rfl, rfl⟩))
   all_goals
    refine bodyPost_ret ?_ rfl ⟨by rw [HD.out], ?_⟩
    ·first
      | (simp [results, Tryd.results98, go_sem, ofS]; done)
      | (simp [results, Tryd.results98, go_sem, spC, ofS]; omega)
    ·repeat (first | (with_reducible first | exact bR _ _ | exact bH ‹_› | refine bD ?_ | refine bN ?_ _ | refine bS ?_ ?_ _ | refine bA ?_ ?_ _ | refine bT hb3 ?_ ?_ | refine bT hb5 ?_ ?_ | refine bT hb4 ?_ ?_) | omega | (simp; omega) | simp)

set_option maxRecDepth 100000 in
set_option maxHeartbeats 4000000 in
theorem spanTest_any (op : Int) (x y : Spn) (w : World) (hop : 12 ≤ op ∧ op ≤ 15) (hxh : x.has = true) (hyh : y.has = true) :
  Calls Tryd.prog 99 #[.int .i64 op, .agg (spC x), .agg (spC y)] w fun e w' => e = .returned (.agg (spC (tstS op x y))) ∧ Below w.heap.size w w' := by
 obtain ⟨a, b, s⟩ := x
 obtain ⟨c, d, s2⟩ := y
 simp only at hxh hyh
 subst hxh hyh
 have ho : op = 12 ∨ op = 13 ∨ op = 14 ∨ op = 15 := by omega
 clear hop
 have hs : ∀ p q r t : Bool, sureS p q = sureS p q := fun _ _ _ _ => rfl
 clear hs
 simp only [spC]
 by_cases e1 : b < c
 ·by_cases hab : a = b
  ·by_cases hcd : c = d
   ·subst hab hcd
    rcases ho with rfl | rfl | rfl | rfl
    ·have HD := hidI (show tstS 12 ⟨a, a, true⟩ ⟨c, c, true⟩ = sureS (a == c) true from by rw [← beq_dec a c]; unfold tstS sameSp apartB; simp [e1])
     have o1 := oneS_yes a
     have o2 := oneS_yes c
     have one1 := fun w => spanOne_any ⟨a, a, true⟩ w
     simp only [spC, o1] at one1
     have HO1 := hidI one1
     clear one1 o1
     have one2 := fun w => spanOne_any ⟨c, c, true⟩ w
     simp only [spC, o2] at one2
     have HO2 := hidI one2
     clear one2 o2
     go_enter Tryd.func99, Tryd.ntmps99
     go_wp2_with (first | (go_at_call 127; first | ((with_reducible refine (HO1.out _).mono ?_); rintro e w1 ⟨rfl, rfl⟩) | ((with_reducible refine (HO2.out _).mono ?_); rintro e w1 ⟨rfl, rfl⟩)) | (go_at_call 129; refine (spanSure_x _ _ _).mono ?_; rintro e w1 ⟨rfl, rfl⟩))
     all_goals
      refine bodyPost_ret ?_ rfl ⟨by rw [HD.out], ?_⟩
      ·simp [results, Tryd.results99, go_sem]
      ·repeat (first | (with_reducible first | exact bR _ _ | exact bH ‹_› | refine bD ?_ | refine bN ?_ _ | refine bS ?_ ?_ _ | refine bA ?_ ?_ _ | refine bT hb3 ?_ ?_ | refine bT hb5 ?_ ?_ | refine bT hb4 ?_ ?_) | omega | (simp; omega) | simp)
    ·have HD := hidI (show tstS 13 ⟨a, a, true⟩ ⟨c, c, true⟩ = sureS true (a == c) from by rw [← beq_dec a c]; unfold tstS sameSp apartB; simp [e1])
     have o1 := oneS_yes a
     have o2 := oneS_yes c
     have one1 := fun w => spanOne_any ⟨a, a, true⟩ w
     simp only [spC, o1] at one1
     have HO1 := hidI one1
     clear one1 o1
     have one2 := fun w => spanOne_any ⟨c, c, true⟩ w
     simp only [spC, o2] at one2
     have HO2 := hidI one2
     clear one2 o2
     go_enter Tryd.func99, Tryd.ntmps99
     go_wp2_with (first | (go_at_call 127; first | ((with_reducible refine (HO1.out _).mono ?_); rintro e w1 ⟨rfl, rfl⟩) | ((with_reducible refine (HO2.out _).mono ?_); rintro e w1 ⟨rfl, rfl⟩)) | (go_at_call 129; refine (spanSure_x _ _ _).mono ?_; rintro e w1 ⟨rfl, rfl⟩))
     all_goals
      refine bodyPost_ret ?_ rfl ⟨by rw [HD.out], ?_⟩
      ·simp [results, Tryd.results99, go_sem]
      ·repeat (first | (with_reducible first | exact bR _ _ | exact bH ‹_› | refine bD ?_ | refine bN ?_ _ | refine bS ?_ ?_ _ | refine bA ?_ ?_ _ | refine bT hb3 ?_ ?_ | refine bT hb5 ?_ ?_ | refine bT hb4 ?_ ?_) | omega | (simp; omega) | simp)
    ·have HD := hidI (show tstS 14 ⟨a, a, true⟩ ⟨c, c, true⟩ = sureS true (decide (c ≤ a)) from by unfold tstS sameSp apartB; simp [e1])
     have o1 := oneS_yes a
     have o2 := oneS_yes c
     have one1 := fun w => spanOne_any ⟨a, a, true⟩ w
     simp only [spC, o1] at one1
     have HO1 := hidI one1
     clear one1 o1
     have one2 := fun w => spanOne_any ⟨c, c, true⟩ w
     simp only [spC, o2] at one2
     have HO2 := hidI one2
     clear one2 o2
     go_enter Tryd.func99, Tryd.ntmps99
     go_wp2_with (first | (go_at_call 127; first | ((with_reducible refine (HO1.out _).mono ?_); rintro e w1 ⟨rfl, rfl⟩) | ((with_reducible refine (HO2.out _).mono ?_); rintro e w1 ⟨rfl, rfl⟩)) | (go_at_call 129; refine (spanSure_x _ _ _).mono ?_; rintro e w1 ⟨rfl, rfl⟩))
     all_goals
      refine bodyPost_ret ?_ rfl ⟨by rw [HD.out], ?_⟩
      ·simp [results, Tryd.results99, go_sem]
      ·repeat (first | (with_reducible first | exact bR _ _ | exact bH ‹_› | refine bD ?_ | refine bN ?_ _ | refine bS ?_ ?_ _ | refine bA ?_ ?_ _ | refine bT hb3 ?_ ?_ | refine bT hb5 ?_ ?_ | refine bT hb4 ?_ ?_) | omega | (simp; omega) | simp)
    ·have HD := hidI (show tstS 15 ⟨a, a, true⟩ ⟨c, c, true⟩ = sureS (decide (a ≤ c)) (decide (c < a)) from by unfold tstS sameSp apartB; simp)
     have o1 := oneS_yes a
     have o2 := oneS_yes c
     have one1 := fun w => spanOne_any ⟨a, a, true⟩ w
     simp only [spC, o1] at one1
     have HO1 := hidI one1
     clear one1 o1
     have one2 := fun w => spanOne_any ⟨c, c, true⟩ w
     simp only [spC, o2] at one2
     have HO2 := hidI one2
     clear one2 o2
     go_enter Tryd.func99, Tryd.ntmps99
     go_wp2_with (first | (go_at_call 127; first | ((with_reducible refine (HO1.out _).mono ?_); rintro e w1 ⟨rfl, rfl⟩) | ((with_reducible refine (HO2.out _).mono ?_); rintro e w1 ⟨rfl, rfl⟩)) | (go_at_call 129; refine (spanSure_x _ _ _).mono ?_; rintro e w1 ⟨rfl, rfl⟩))
     all_goals
      refine bodyPost_ret ?_ rfl ⟨by rw [HD.out], ?_⟩
      ·simp [results, Tryd.results99, go_sem]
      ·repeat (first | (with_reducible first | exact bR _ _ | exact bH ‹_› | refine bD ?_ | refine bN ?_ _ | refine bS ?_ ?_ _ | refine bA ?_ ?_ _ | refine bT hb3 ?_ ?_ | refine bT hb5 ?_ ?_ | refine bT hb4 ?_ ?_) | omega | (simp; omega) | simp)
   ·subst hab
    rcases ho with rfl | rfl | rfl | rfl
    ·have HD := hidI (show tstS 12 ⟨a, a, true⟩ ⟨c, d, true⟩ = sureS false true from by unfold tstS sameSp apartB; simp [e1, hcd])
     have o1 := oneS_yes a
     have o2 := oneS_no hcd
     have one1 := fun w => spanOne_any ⟨a, a, true⟩ w
     simp only [spC, o1] at one1
     have HO1 := hidI one1
     clear one1 o1
     have one2 := fun w => spanOne_any ⟨c, d, true⟩ w
     simp only [spC, o2] at one2
     have HO2 := hidI one2
     clear one2 o2
     go_enter Tryd.func99, Tryd.ntmps99
     go_wp2_with (first | (go_at_call 127; first | ((with_reducible refine (HO1.out _).mono ?_); rintro e w1 ⟨rfl, rfl⟩) | ((with_reducible refine (HO2.out _).mono ?_); rintro e w1 ⟨rfl, rfl⟩)) | (go_at_call 129; refine (spanSure_x _ _ _).mono ?_; rintro e w1 ⟨rfl, rfl⟩))
     all_goals
      refine bodyPost_ret ?_ rfl ⟨by rw [HD.out], ?_⟩
      ·simp [results, Tryd.results99, go_sem]
      ·repeat (first | (with_reducible first | exact bR _ _ | exact bH ‹_› | refine bD ?_ | refine bN ?_ _ | refine bS ?_ ?_ _ | refine bA ?_ ?_ _ | refine bT hb3 ?_ ?_ | refine bT hb5 ?_ ?_ | refine bT hb4 ?_ ?_) | omega | (simp; omega) | simp)
    ·have HD := hidI (show tstS 13 ⟨a, a, true⟩ ⟨c, d, true⟩ = sureS true false from by unfold tstS sameSp apartB; simp [e1, hcd])
     have o1 := oneS_yes a
     have o2 := oneS_no hcd
     have one1 := fun w => spanOne_any ⟨a, a, true⟩ w
     simp only [spC, o1] at one1
     have HO1 := hidI one1
     clear one1 o1
     have one2 := fun w => spanOne_any ⟨c, d, true⟩ w
     simp only [spC, o2] at one2
     have HO2 := hidI one2
     clear one2 o2
     go_enter Tryd.func99, Tryd.ntmps99
     go_wp2_with (first | (go_at_call 127; first | ((with_reducible refine (HO1.out _).mono ?_); rintro e w1 ⟨rfl, rfl⟩) | ((with_reducible refine (HO2.out _).mono ?_); rintro e w1 ⟨rfl, rfl⟩)) | (go_at_call 129; refine (spanSure_x _ _ _).mono ?_; rintro e w1 ⟨rfl, rfl⟩))
     all_goals
      refine bodyPost_ret ?_ rfl ⟨by rw [HD.out], ?_⟩
      ·simp [results, Tryd.results99, go_sem]
      ·repeat (first | (with_reducible first | exact bR _ _ | exact bH ‹_› | refine bD ?_ | refine bN ?_ _ | refine bS ?_ ?_ _ | refine bA ?_ ?_ _ | refine bT hb3 ?_ ?_ | refine bT hb5 ?_ ?_ | refine bT hb4 ?_ ?_) | omega | (simp; omega) | simp)
    ·have HD := hidI (show tstS 14 ⟨a, a, true⟩ ⟨c, d, true⟩ = sureS true (decide (d ≤ a)) from by unfold tstS sameSp apartB; simp [e1])
     have o1 := oneS_yes a
     have o2 := oneS_no hcd
     have one1 := fun w => spanOne_any ⟨a, a, true⟩ w
     simp only [spC, o1] at one1
     have HO1 := hidI one1
     clear one1 o1
     have one2 := fun w => spanOne_any ⟨c, d, true⟩ w
     simp only [spC, o2] at one2
     have HO2 := hidI one2
     clear one2 o2
     go_enter Tryd.func99, Tryd.ntmps99
     go_wp2_with (first | (go_at_call 127; first | ((with_reducible refine (HO1.out _).mono ?_); rintro e w1 ⟨rfl, rfl⟩) | ((with_reducible refine (HO2.out _).mono ?_); rintro e w1 ⟨rfl, rfl⟩)) | (go_at_call 129; refine (spanSure_x _ _ _).mono ?_; rintro e w1 ⟨rfl, rfl⟩))
     all_goals
      refine bodyPost_ret ?_ rfl ⟨by rw [HD.out], ?_⟩
      ·simp [results, Tryd.results99, go_sem]
      ·repeat (first | (with_reducible first | exact bR _ _ | exact bH ‹_› | refine bD ?_ | refine bN ?_ _ | refine bS ?_ ?_ _ | refine bA ?_ ?_ _ | refine bT hb3 ?_ ?_ | refine bT hb5 ?_ ?_ | refine bT hb4 ?_ ?_) | omega | (simp; omega) | simp)
    ·have HD := hidI (show tstS 15 ⟨a, a, true⟩ ⟨c, d, true⟩ = sureS (decide (a ≤ c)) (decide (d < a)) from by unfold tstS sameSp apartB; simp)
     have o1 := oneS_yes a
     have o2 := oneS_no hcd
     have one1 := fun w => spanOne_any ⟨a, a, true⟩ w
     simp only [spC, o1] at one1
     have HO1 := hidI one1
     clear one1 o1
     have one2 := fun w => spanOne_any ⟨c, d, true⟩ w
     simp only [spC, o2] at one2
     have HO2 := hidI one2
     clear one2 o2
     go_enter Tryd.func99, Tryd.ntmps99
     go_wp2_with (first | (go_at_call 127; first | ((with_reducible refine (HO1.out _).mono ?_); rintro e w1 ⟨rfl, rfl⟩) | ((with_reducible refine (HO2.out _).mono ?_); rintro e w1 ⟨rfl, rfl⟩)) | (go_at_call 129; refine (spanSure_x _ _ _).mono ?_; rintro e w1 ⟨rfl, rfl⟩))
     all_goals
      refine bodyPost_ret ?_ rfl ⟨by rw [HD.out], ?_⟩
      ·simp [results, Tryd.results99, go_sem]
      ·repeat (first | (with_reducible first | exact bR _ _ | exact bH ‹_› | refine bD ?_ | refine bN ?_ _ | refine bS ?_ ?_ _ | refine bA ?_ ?_ _ | refine bT hb3 ?_ ?_ | refine bT hb5 ?_ ?_ | refine bT hb4 ?_ ?_) | omega | (simp; omega) | simp)
  ·rcases ho with rfl | rfl | rfl | rfl
   ·have HD := hidI (show tstS 12 ⟨a, b, true⟩ ⟨c, d, true⟩ = sureS false true from by unfold tstS sameSp apartB; simp [e1, hab])
    have o1 := oneS_no hab
    have one1 := fun w => spanOne_any ⟨a, b, true⟩ w
    simp only [spC, o1] at one1
    have HO1 := hidI one1
    clear one1 o1
    go_enter Tryd.func99, Tryd.ntmps99
    go_wp2_with (first | (go_at_call 127; first | ((with_reducible refine (HO1.out _).mono ?_); rintro e w1 ⟨rfl, rfl⟩)) | (go_at_call 129; refine (spanSure_x _ _ _).mono ?_; rintro e w1 ⟨rfl, rfl⟩))
    all_goals
     refine bodyPost_ret ?_ rfl ⟨by rw [HD.out], ?_⟩
     ·simp [results, Tryd.results99, go_sem]
     ·repeat (first | (with_reducible first | exact bR _ _ | exact bH ‹_› | refine bD ?_ | refine bN ?_ _ | refine bS ?_ ?_ _ | refine bA ?_ ?_ _ | refine bT hb3 ?_ ?_ | refine bT hb5 ?_ ?_ | refine bT hb4 ?_ ?_) | omega | (simp; omega) | simp)
   ·have HD := hidI (show tstS 13 ⟨a, b, true⟩ ⟨c, d, true⟩ = sureS true false from by unfold tstS sameSp apartB; simp [e1, hab])
    have o1 := oneS_no hab
    have one1 := fun w => spanOne_any ⟨a, b, true⟩ w
    simp only [spC, o1] at one1
    have HO1 := hidI one1
    clear one1 o1
    go_enter Tryd.func99, Tryd.ntmps99
    go_wp2_with (first | (go_at_call 127; first | ((with_reducible refine (HO1.out _).mono ?_); rintro e w1 ⟨rfl, rfl⟩)) | (go_at_call 129; refine (spanSure_x _ _ _).mono ?_; rintro e w1 ⟨rfl, rfl⟩))
    all_goals
     refine bodyPost_ret ?_ rfl ⟨by rw [HD.out], ?_⟩
     ·simp [results, Tryd.results99, go_sem]
     ·repeat (first | (with_reducible first | exact bR _ _ | exact bH ‹_› | refine bD ?_ | refine bN ?_ _ | refine bS ?_ ?_ _ | refine bA ?_ ?_ _ | refine bT hb3 ?_ ?_ | refine bT hb5 ?_ ?_ | refine bT hb4 ?_ ?_) | omega | (simp; omega) | simp)
   ·have HD := hidI (show tstS 14 ⟨a, b, true⟩ ⟨c, d, true⟩ = sureS true (decide (d ≤ a)) from by unfold tstS sameSp apartB; simp [e1])
    have o1 := oneS_no hab
    have one1 := fun w => spanOne_any ⟨a, b, true⟩ w
    simp only [spC, o1] at one1
    have HO1 := hidI one1
    clear one1 o1
    go_enter Tryd.func99, Tryd.ntmps99
    go_wp2_with (first | (go_at_call 127; first | ((with_reducible refine (HO1.out _).mono ?_); rintro e w1 ⟨rfl, rfl⟩)) | (go_at_call 129; refine (spanSure_x _ _ _).mono ?_; rintro e w1 ⟨rfl, rfl⟩))
    all_goals
     refine bodyPost_ret ?_ rfl ⟨by rw [HD.out], ?_⟩
     ·simp [results, Tryd.results99, go_sem]
     ·repeat (first | (with_reducible first | exact bR _ _ | exact bH ‹_› | refine bD ?_ | refine bN ?_ _ | refine bS ?_ ?_ _ | refine bA ?_ ?_ _ | refine bT hb3 ?_ ?_ | refine bT hb5 ?_ ?_ | refine bT hb4 ?_ ?_) | omega | (simp; omega) | simp)
   ·have HD := hidI (show tstS 15 ⟨a, b, true⟩ ⟨c, d, true⟩ = sureS (decide (b ≤ c)) (decide (d < a)) from by unfold tstS sameSp apartB; simp)
    have o1 := oneS_no hab
    have one1 := fun w => spanOne_any ⟨a, b, true⟩ w
    simp only [spC, o1] at one1
    have HO1 := hidI one1
    clear one1 o1
    go_enter Tryd.func99, Tryd.ntmps99
    go_wp2_with (first | (go_at_call 127; first | ((with_reducible refine (HO1.out _).mono ?_); rintro e w1 ⟨rfl, rfl⟩)) | (go_at_call 129; refine (spanSure_x _ _ _).mono ?_; rintro e w1 ⟨rfl, rfl⟩))
    all_goals
     refine bodyPost_ret ?_ rfl ⟨by rw [HD.out], ?_⟩
     ·simp [results, Tryd.results99, go_sem]
     ·repeat (first | (with_reducible first | exact bR _ _ | exact bH ‹_› | refine bD ?_ | refine bN ?_ _ | refine bS ?_ ?_ _ | refine bA ?_ ?_ _ | refine bT hb3 ?_ ?_ | refine bT hb5 ?_ ?_ | refine bT hb4 ?_ ?_) | omega | (simp; omega) | simp)
 ·by_cases hab : a = b
  ·by_cases hcd : c = d
   ·subst hab hcd
    rcases ho with rfl | rfl | rfl | rfl
    ·have HD := hidI (show tstS 12 ⟨a, a, true⟩ ⟨c, c, true⟩ = sureS (a == c) (decide (c < a)) from by rw [← beq_dec a c]; unfold tstS sameSp apartB; simp [e1])
     have o1 := oneS_yes a
     have o2 := oneS_yes c
     have one1 := fun w => spanOne_any ⟨a, a, true⟩ w
     simp only [spC, o1] at one1
     have HO1 := hidI one1
     clear one1 o1
     have one2 := fun w => spanOne_any ⟨c, c, true⟩ w
     simp only [spC, o2] at one2
     have HO2 := hidI one2
     clear one2 o2
     go_enter Tryd.func99, Tryd.ntmps99
     go_wp2_with (first | (go_at_call 127; first | ((with_reducible refine (HO1.out _).mono ?_); rintro e w1 ⟨rfl, rfl⟩) | ((with_reducible refine (HO2.out _).mono ?_); rintro e w1 ⟨rfl, rfl⟩)) | (go_at_call 129; refine (spanSure_x _ _ _).mono ?_; rintro e w1 ⟨rfl, rfl⟩))
     all_goals
      refine bodyPost_ret ?_ rfl ⟨by rw [HD.out], ?_⟩
      ·simp [results, Tryd.results99, go_sem]
      ·repeat (first | (with_reducible first | exact bR _ _ | exact bH ‹_› | refine bD ?_ | refine bN ?_ _ | refine bS ?_ ?_ _ | refine bA ?_ ?_ _ | refine bT hb3 ?_ ?_ | refine bT hb5 ?_ ?_ | refine bT hb4 ?_ ?_) | omega | (simp; omega) | simp)
    ·have HD := hidI (show tstS 13 ⟨a, a, true⟩ ⟨c, c, true⟩ = sureS (decide (c < a)) (a == c) from by rw [← beq_dec a c]; unfold tstS sameSp apartB; simp [e1])
     have o1 := oneS_yes a
     have o2 := oneS_yes c
     have one1 := fun w => spanOne_any ⟨a, a, true⟩ w
     simp only [spC, o1] at one1
     have HO1 := hidI one1
     clear one1 o1
     have one2 := fun w => spanOne_any ⟨c, c, true⟩ w
     simp only [spC, o2] at one2
     have HO2 := hidI one2
     clear one2 o2
     go_enter Tryd.func99, Tryd.ntmps99
     go_wp2_with (first | (go_at_call 127; first | ((with_reducible refine (HO1.out _).mono ?_); rintro e w1 ⟨rfl, rfl⟩) | ((with_reducible refine (HO2.out _).mono ?_); rintro e w1 ⟨rfl, rfl⟩)) | (go_at_call 129; refine (spanSure_x _ _ _).mono ?_; rintro e w1 ⟨rfl, rfl⟩))
     all_goals
      refine bodyPost_ret ?_ rfl ⟨by rw [HD.out], ?_⟩
      ·simp [results, Tryd.results99, go_sem]
      ·repeat (first | (with_reducible first | exact bR _ _ | exact bH ‹_› | refine bD ?_ | refine bN ?_ _ | refine bS ?_ ?_ _ | refine bA ?_ ?_ _ | refine bT hb3 ?_ ?_ | refine bT hb5 ?_ ?_ | refine bT hb4 ?_ ?_) | omega | (simp; omega) | simp)
    ·have HD := hidI (show tstS 14 ⟨a, a, true⟩ ⟨c, c, true⟩ = sureS false (decide (c ≤ a)) from by unfold tstS sameSp apartB; simp [e1])
     have o1 := oneS_yes a
     have o2 := oneS_yes c
     have one1 := fun w => spanOne_any ⟨a, a, true⟩ w
     simp only [spC, o1] at one1
     have HO1 := hidI one1
     clear one1 o1
     have one2 := fun w => spanOne_any ⟨c, c, true⟩ w
     simp only [spC, o2] at one2
     have HO2 := hidI one2
     clear one2 o2
     go_enter Tryd.func99, Tryd.ntmps99
     go_wp2_with (first | (go_at_call 127; first | ((with_reducible refine (HO1.out _).mono ?_); rintro e w1 ⟨rfl, rfl⟩) | ((with_reducible refine (HO2.out _).mono ?_); rintro e w1 ⟨rfl, rfl⟩)) | (go_at_call 129; refine (spanSure_x _ _ _).mono ?_; rintro e w1 ⟨rfl, rfl⟩))
     all_goals
      refine bodyPost_ret ?_ rfl ⟨by rw [HD.out], ?_⟩
      ·have hf : decide (a < c) = false := by simp; omega
       have ht : decide (c ≤ a) = true := by simp; omega
       simp [results, Tryd.results99, go_sem, hf, ht]
      ·repeat (first | (with_reducible first | exact bR _ _ | exact bH ‹_› | refine bD ?_ | refine bN ?_ _ | refine bS ?_ ?_ _ | refine bA ?_ ?_ _ | refine bT hb3 ?_ ?_ | refine bT hb5 ?_ ?_ | refine bT hb4 ?_ ?_) | omega | (simp; omega) | simp)
    ·have HD := hidI (show tstS 15 ⟨a, a, true⟩ ⟨c, c, true⟩ = sureS (decide (a ≤ c)) (decide (c < a)) from by unfold tstS sameSp apartB; simp)
     have o1 := oneS_yes a
     have o2 := oneS_yes c
     have one1 := fun w => spanOne_any ⟨a, a, true⟩ w
     simp only [spC, o1] at one1
     have HO1 := hidI one1
     clear one1 o1
     have one2 := fun w => spanOne_any ⟨c, c, true⟩ w
     simp only [spC, o2] at one2
     have HO2 := hidI one2
     clear one2 o2
     go_enter Tryd.func99, Tryd.ntmps99
     go_wp2_with (first | (go_at_call 127; first | ((with_reducible refine (HO1.out _).mono ?_); rintro e w1 ⟨rfl, rfl⟩) | ((with_reducible refine (HO2.out _).mono ?_); rintro e w1 ⟨rfl, rfl⟩)) | (go_at_call 129; refine (spanSure_x _ _ _).mono ?_; rintro e w1 ⟨rfl, rfl⟩))
     all_goals
      refine bodyPost_ret ?_ rfl ⟨by rw [HD.out], ?_⟩
      ·simp [results, Tryd.results99, go_sem]
      ·repeat (first | (with_reducible first | exact bR _ _ | exact bH ‹_› | refine bD ?_ | refine bN ?_ _ | refine bS ?_ ?_ _ | refine bA ?_ ?_ _ | refine bT hb3 ?_ ?_ | refine bT hb5 ?_ ?_ | refine bT hb4 ?_ ?_) | omega | (simp; omega) | simp)
   ·subst hab
    rcases ho with rfl | rfl | rfl | rfl
    ·have HD := hidI (show tstS 12 ⟨a, a, true⟩ ⟨c, d, true⟩ = sureS false (decide (d < a)) from by unfold tstS sameSp apartB; simp [e1, hcd])
     have o1 := oneS_yes a
     have o2 := oneS_no hcd
     have one1 := fun w => spanOne_any ⟨a, a, true⟩ w
     simp only [spC, o1] at one1
     have HO1 := hidI one1
     clear one1 o1
     have one2 := fun w => spanOne_any ⟨c, d, true⟩ w
     simp only [spC, o2] at one2
     have HO2 := hidI one2
     clear one2 o2
     go_enter Tryd.func99, Tryd.ntmps99
     go_wp2_with (first | (go_at_call 127; first | ((with_reducible refine (HO1.out _).mono ?_); rintro e w1 ⟨rfl, rfl⟩) | ((with_reducible refine (HO2.out _).mono ?_); rintro e w1 ⟨rfl, rfl⟩)) | (go_at_call 129; refine (spanSure_x _ _ _).mono ?_; rintro e w1 ⟨rfl, rfl⟩))
     all_goals
      refine bodyPost_ret ?_ rfl ⟨by rw [HD.out], ?_⟩
      ·simp [results, Tryd.results99, go_sem]
      ·repeat (first | (with_reducible first | exact bR _ _ | exact bH ‹_› | refine bD ?_ | refine bN ?_ _ | refine bS ?_ ?_ _ | refine bA ?_ ?_ _ | refine bT hb3 ?_ ?_ | refine bT hb5 ?_ ?_ | refine bT hb4 ?_ ?_) | omega | (simp; omega) | simp)
    ·have HD := hidI (show tstS 13 ⟨a, a, true⟩ ⟨c, d, true⟩ = sureS (decide (d < a)) false from by unfold tstS sameSp apartB; simp [e1, hcd])
     have o1 := oneS_yes a
     have o2 := oneS_no hcd
     have one1 := fun w => spanOne_any ⟨a, a, true⟩ w
     simp only [spC, o1] at one1
     have HO1 := hidI one1
     clear one1 o1
     have one2 := fun w => spanOne_any ⟨c, d, true⟩ w
     simp only [spC, o2] at one2
     have HO2 := hidI one2
     clear one2 o2
     go_enter Tryd.func99, Tryd.ntmps99
     go_wp2_with (first | (go_at_call 127; first | ((with_reducible refine (HO1.out _).mono ?_); rintro e w1 ⟨rfl, rfl⟩) | ((with_reducible refine (HO2.out _).mono ?_); rintro e w1 ⟨rfl, rfl⟩)) | (go_at_call 129; refine (spanSure_x _ _ _).mono ?_; rintro e w1 ⟨rfl, rfl⟩))
     all_goals
      refine bodyPost_ret ?_ rfl ⟨by rw [HD.out], ?_⟩
      ·simp [results, Tryd.results99, go_sem]
      ·repeat (first | (with_reducible first | exact bR _ _ | exact bH ‹_› | refine bD ?_ | refine bN ?_ _ | refine bS ?_ ?_ _ | refine bA ?_ ?_ _ | refine bT hb3 ?_ ?_ | refine bT hb5 ?_ ?_ | refine bT hb4 ?_ ?_) | omega | (simp; omega) | simp)
    ·have HD := hidI (show tstS 14 ⟨a, a, true⟩ ⟨c, d, true⟩ = sureS false (decide (d ≤ a)) from by unfold tstS sameSp apartB; simp [e1])
     have o1 := oneS_yes a
     have o2 := oneS_no hcd
     have one1 := fun w => spanOne_any ⟨a, a, true⟩ w
     simp only [spC, o1] at one1
     have HO1 := hidI one1
     clear one1 o1
     have one2 := fun w => spanOne_any ⟨c, d, true⟩ w
     simp only [spC, o2] at one2
     have HO2 := hidI one2
     clear one2 o2
     go_enter Tryd.func99, Tryd.ntmps99
     go_wp2_with (first | (go_at_call 127; first | ((with_reducible refine (HO1.out _).mono ?_); rintro e w1 ⟨rfl, rfl⟩) | ((with_reducible refine (HO2.out _).mono ?_); rintro e w1 ⟨rfl, rfl⟩)) | (go_at_call 129; refine (spanSure_x _ _ _).mono ?_; rintro e w1 ⟨rfl, rfl⟩))
     all_goals
      refine bodyPost_ret ?_ rfl ⟨by rw [HD.out], ?_⟩
      ·have hf : decide (a < c) = false := by simp; omega
       simp [results, Tryd.results99, go_sem, hf]
      ·repeat (first | (with_reducible first | exact bR _ _ | exact bH ‹_› | refine bD ?_ | refine bN ?_ _ | refine bS ?_ ?_ _ | refine bA ?_ ?_ _ | refine bT hb3 ?_ ?_ | refine bT hb5 ?_ ?_ | refine bT hb4 ?_ ?_) | omega | (simp; omega) | simp)
    ·have HD := hidI (show tstS 15 ⟨a, a, true⟩ ⟨c, d, true⟩ = sureS (decide (a ≤ c)) (decide (d < a)) from by unfold tstS sameSp apartB; simp)
     have o1 := oneS_yes a
     have o2 := oneS_no hcd
     have one1 := fun w => spanOne_any ⟨a, a, true⟩ w
     simp only [spC, o1] at one1
     have HO1 := hidI one1
     clear one1 o1
     have one2 := fun w => spanOne_any ⟨c, d, true⟩ w
     simp only [spC, o2] at one2
     have HO2 := hidI one2
     clear one2 o2
     go_enter Tryd.func99, Tryd.ntmps99
     go_wp2_with (first | (go_at_call 127; first | ((with_reducible refine (HO1.out _).mono ?_); rintro e w1 ⟨rfl, rfl⟩) | ((with_reducible refine (HO2.out _).mono ?_); rintro e w1 ⟨rfl, rfl⟩)) | (go_at_call 129; refine (spanSure_x _ _ _).mono ?_; rintro e w1 ⟨rfl, rfl⟩))
     all_goals
      refine bodyPost_ret ?_ rfl ⟨by rw [HD.out], ?_⟩
      ·simp [results, Tryd.results99, go_sem]
      ·repeat (first | (with_reducible first | exact bR _ _ | exact bH ‹_› | refine bD ?_ | refine bN ?_ _ | refine bS ?_ ?_ _ | refine bA ?_ ?_ _ | refine bT hb3 ?_ ?_ | refine bT hb5 ?_ ?_ | refine bT hb4 ?_ ?_) | omega | (simp; omega) | simp)
  ·rcases ho with rfl | rfl | rfl | rfl
   ·have HD := hidI (show tstS 12 ⟨a, b, true⟩ ⟨c, d, true⟩ = sureS false (decide (d < a)) from by unfold tstS sameSp apartB; simp [e1, hab])
    have o1 := oneS_no hab
    have one1 := fun w => spanOne_any ⟨a, b, true⟩ w
    simp only [spC, o1] at one1
    have HO1 := hidI one1
    clear one1 o1
    go_enter Tryd.func99, Tryd.ntmps99
    go_wp2_with (first | (go_at_call 127; first | ((with_reducible refine (HO1.out _).mono ?_); rintro e w1 ⟨rfl, rfl⟩)) | (go_at_call 129; refine (spanSure_x _ _ _).mono ?_; rintro e w1 ⟨rfl, rfl⟩))
    all_goals
     refine bodyPost_ret ?_ rfl ⟨by rw [HD.out], ?_⟩
     ·simp [results, Tryd.results99, go_sem]
     ·repeat (first | (with_reducible first | exact bR _ _ | exact bH ‹_› | refine bD ?_ | refine bN ?_ _ | refine bS ?_ ?_ _ | refine bA ?_ ?_ _ | refine bT hb3 ?_ ?_ | refine bT hb5 ?_ ?_ | refine bT hb4 ?_ ?_) | omega | (simp; omega) | simp)
   ·have HD := hidI (show tstS 13 ⟨a, b, true⟩ ⟨c, d, true⟩ = sureS (decide (d < a)) false from by unfold tstS sameSp apartB; simp [e1, hab])
    have o1 := oneS_no hab
    have one1 := fun w => spanOne_any ⟨a, b, true⟩ w
    simp only [spC, o1] at one1
    have HO1 := hidI one1
    clear one1 o1
    go_enter Tryd.func99, Tryd.ntmps99
    go_wp2_with (first | (go_at_call 127; first | ((with_reducible refine (HO1.out _).mono ?_); rintro e w1 ⟨rfl, rfl⟩)) | (go_at_call 129; refine (spanSure_x _ _ _).mono ?_; rintro e w1 ⟨rfl, rfl⟩))
    all_goals
     refine bodyPost_ret ?_ rfl ⟨by rw [HD.out], ?_⟩
     ·simp [results, Tryd.results99, go_sem]
     ·repeat (first | (with_reducible first | exact bR _ _ | exact bH ‹_› | refine bD ?_ | refine bN ?_ _ | refine bS ?_ ?_ _ | refine bA ?_ ?_ _ | refine bT hb3 ?_ ?_ | refine bT hb5 ?_ ?_ | refine bT hb4 ?_ ?_) | omega | (simp; omega) | simp)
   ·have HD := hidI (show tstS 14 ⟨a, b, true⟩ ⟨c, d, true⟩ = sureS false (decide (d ≤ a)) from by unfold tstS sameSp apartB; simp [e1])
    have o1 := oneS_no hab
    have one1 := fun w => spanOne_any ⟨a, b, true⟩ w
    simp only [spC, o1] at one1
    have HO1 := hidI one1
    clear one1 o1
    go_enter Tryd.func99, Tryd.ntmps99
    go_wp2_with (first | (go_at_call 127; first | ((with_reducible refine (HO1.out _).mono ?_); rintro e w1 ⟨rfl, rfl⟩)) | (go_at_call 129; refine (spanSure_x _ _ _).mono ?_; rintro e w1 ⟨rfl, rfl⟩))
    all_goals
     refine bodyPost_ret ?_ rfl ⟨by rw [HD.out], ?_⟩
     ·have hf : decide (b < c) = false := by simp; omega
      simp [results, Tryd.results99, go_sem, hf]
     ·repeat (first | (with_reducible first | exact bR _ _ | exact bH ‹_› | refine bD ?_ | refine bN ?_ _ | refine bS ?_ ?_ _ | refine bA ?_ ?_ _ | refine bT hb3 ?_ ?_ | refine bT hb5 ?_ ?_ | refine bT hb4 ?_ ?_) | omega | (simp; omega) | simp)
   ·have HD := hidI (show tstS 15 ⟨a, b, true⟩ ⟨c, d, true⟩ = sureS (decide (b ≤ c)) (decide (d < a)) from by unfold tstS sameSp apartB; simp)
    have o1 := oneS_no hab
    have one1 := fun w => spanOne_any ⟨a, b, true⟩ w
    simp only [spC, o1] at one1
    have HO1 := hidI one1
    clear one1 o1
    go_enter Tryd.func99, Tryd.ntmps99
    go_wp2_with (first | (go_at_call 127; first | ((with_reducible refine (HO1.out _).mono ?_); rintro e w1 ⟨rfl, rfl⟩)) | (go_at_call 129; refine (spanSure_x _ _ _).mono ?_; rintro e w1 ⟨rfl, rfl⟩))
    all_goals
     refine bodyPost_ret ?_ rfl ⟨by rw [HD.out], ?_⟩
     ·simp [results, Tryd.results99, go_sem]
     ·repeat (first | (with_reducible first | exact bR _ _ | exact bH ‹_› | refine bD ?_ | refine bN ?_ _ | refine bS ?_ ?_ _ | refine bA ?_ ?_ _ | refine bT hb3 ?_ ?_ | refine bT hb5 ?_ ?_ | refine bT hb4 ?_ ?_) | omega | (simp; omega) | simp)
end Go.Proofs.YtdjamkinijhjoaaDoor
