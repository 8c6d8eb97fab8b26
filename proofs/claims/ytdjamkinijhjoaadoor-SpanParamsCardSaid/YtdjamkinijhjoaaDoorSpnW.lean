/-
  The contract of the reference's SpanMakes.
-/
import Derived.WalkKit
import Derived.WalkSpells
import Derived.WalkLawsBesides
import Derived.Test.YtdjamkinijhjoaaDoorSpnU
import Derived.Test.YtdjamkinijhjoaaDoorSpnT
import Derived.Test.YtdjamkinijhjoaaDoorJSpnV
namespace Go.Proofs.YtdjamkinijhjoaaDoor
open Go.RowKit Go.Shelf

set_option maxRecDepth 100000 in
set_option maxHeartbeats 4000000 in
theorem rm_rest (op a b c d : Int) (s : Bool) (s2 : Bool) (h : 17 < op ∧ op ≤ 22) (w : World) :
    Calls Tryd.prog 29 #[.int .i64 op, .agg #[.int .i64 a, .int .i64 b, .bool s], .agg #[.int .i64 c, .int .i64 d, .bool s2]] w fun e w' => e = .returned (.agg (spC allS)) ∧ Below w.heap.size w w' := by
  go_enter Tryd.func29, Tryd.ntmps29
  go_wp2_with (go_at_call 25; refine (rAll_any _).mono ?_; rintro e w1 ⟨rfl, rfl⟩)
  all_goals
    refine bodyPost_ret (v := .agg (spC allS)) ?_ rfl ⟨rfl, ?_⟩
    · simp [results, Tryd.results29, go_sem, spC, allS, minI, maxI, *]
    · repeat (first | with_reducible exact Below.refl _ _ | with_reducible exact HB3.out | with_reducible refine Below.drew ?_ | with_reducible refine below_drewN ?_ _ | with_reducible refine Below.setCell ?_ ?_ _ | with_reducible refine Below.alloc ?_ ?_ _ | with_reducible exact HB2.out | with_reducible exact HB1.out | with_reducible refine Below.trans ?_ (Below.mono hb3 ?_) | with_reducible refine Below.trans ?_ (Below.mono hb5 ?_) | with_reducible refine Below.trans ?_ (Below.mono hb4 ?_) | omega | (simp; omega) | simp)
set_option maxRecDepth 100000 in
set_option maxHeartbeats 4000000 in
theorem rm_no1 (op a b c d : Int) (s2 : Bool) (h : 1 ≤ op ∧ op ≤ 17) (w : World) :
    Calls Tryd.prog 29 #[.int .i64 op, .agg #[.int .i64 a, .int .i64 b, .bool false], .agg #[.int .i64 c, .int .i64 d, .bool s2]] w fun e w' => e = .returned (.agg (spC noS')) ∧ Below w.heap.size w w' := by
  go_enter Tryd.func29, Tryd.ntmps29
  go_wp2_with fail
  all_goals
    refine bodyPost_ret (v := .agg (spC noS')) ?_ rfl ⟨rfl, ?_⟩
    · simp [results, Tryd.results29, go_sem, spC, noS', *]
    · repeat (first | with_reducible exact Below.refl _ _ | with_reducible exact HB3.out | with_reducible refine Below.drew ?_ | with_reducible refine below_drewN ?_ _ | with_reducible refine Below.setCell ?_ ?_ _ | with_reducible refine Below.alloc ?_ ?_ _ | with_reducible exact HB2.out | with_reducible exact HB1.out | with_reducible refine Below.trans ?_ (Below.mono hb3 ?_) | with_reducible refine Below.trans ?_ (Below.mono hb5 ?_) | with_reducible refine Below.trans ?_ (Below.mono hb4 ?_) | omega | (simp; omega) | simp)
set_option maxRecDepth 100000 in
set_option maxHeartbeats 4000000 in
theorem rm_no2 (op a b c d : Int) (h : 2 ≤ op ∧ op ≤ 15) (w : World) :
    Calls Tryd.prog 29 #[.int .i64 op, .agg #[.int .i64 a, .int .i64 b, .bool true], .agg #[.int .i64 c, .int .i64 d, .bool false]] w fun e w' => e = .returned (.agg (spC noS')) ∧ Below w.heap.size w w' := by
  go_enter Tryd.func29, Tryd.ntmps29
  go_wp2_with fail
  all_goals
    refine bodyPost_ret (v := .agg (spC noS')) ?_ rfl ⟨rfl, ?_⟩
    · simp [results, Tryd.results29, go_sem, spC, noS', *]
    · repeat (first | with_reducible exact Below.refl _ _ | with_reducible exact HB3.out | with_reducible refine Below.drew ?_ | with_reducible refine below_drewN ?_ _ | with_reducible refine Below.setCell ?_ ?_ _ | with_reducible refine Below.alloc ?_ ?_ _ | with_reducible exact HB2.out | with_reducible exact HB1.out | with_reducible refine Below.trans ?_ (Below.mono hb3 ?_) | with_reducible refine Below.trans ?_ (Below.mono hb5 ?_) | with_reducible refine Below.trans ?_ (Below.mono hb4 ?_) | omega | (simp; omega) | simp)
set_option maxRecDepth 100000 in
set_option maxHeartbeats 4000000 in
theorem rm_1 (a b c d : Int) (s2 : Bool) (w : World) :
    Calls Tryd.prog 29 #[.int .i64 1, .agg #[.int .i64 a, .int .i64 b, .bool true], .agg #[.int .i64 c, .int .i64 d, .bool s2]] w fun e w' => e = .returned (.agg (spC (ofS a b))) ∧ Below w.heap.size w w' := by
  go_enter Tryd.func29, Tryd.ntmps29
  go_wp2_with fail
  all_goals
    refine bodyPost_ret (v := .agg (spC (ofS a b))) ?_ rfl ⟨rfl, ?_⟩
    · simp [results, Tryd.results29, go_sem, spC, ofS, *]
    · repeat (first | with_reducible exact Below.refl _ _ | with_reducible exact HB3.out | with_reducible refine Below.drew ?_ | with_reducible refine below_drewN ?_ _ | with_reducible refine Below.setCell ?_ ?_ _ | with_reducible refine Below.alloc ?_ ?_ _ | with_reducible exact HB2.out | with_reducible exact HB1.out | with_reducible refine Below.trans ?_ (Below.mono hb3 ?_) | with_reducible refine Below.trans ?_ (Below.mono hb5 ?_) | with_reducible refine Below.trans ?_ (Below.mono hb4 ?_) | omega | (simp; omega) | simp)
set_option maxRecDepth 100000 in
set_option maxHeartbeats 4000000 in
theorem rm_17 (a b c d : Int) (s2 : Bool) (ha : I64 a) (hb : I64 b) (w : World) :
    Calls Tryd.prog 29 #[.int .i64 17, .agg #[.int .i64 a, .int .i64 b, .bool true], .agg #[.int .i64 c, .int .i64 d, .bool s2]] w fun e w' => e = .returned (.agg (spC (ofS (-1 - b) (-1 - a)))) ∧ Below w.heap.size w w' := by
  unfold I64 at ha hb
  have hw1 : wrap64 (-1 - b) = -1 - b := by unfold wrap64; omega
  have hw2 : wrap64 (-1 - a) = -1 - a := by unfold wrap64; omega
  have hwr : ∀ n, IntKind.i64.wrap n = wrap64 n := IntWalk.i64_left
  go_enter Tryd.func29, Tryd.ntmps29
  go_wp2_with (go_at_call 59; refine (rOf_any _ _ _).mono ?_; rintro e w1 ⟨rfl, rfl⟩)
  all_goals
    refine bodyPost_ret (v := .agg (spC (ofS (-1 - b) (-1 - a)))) ?_ rfl ⟨rfl, ?_⟩
    · simp [results, Tryd.results29, go_sem, spC, ofS, *]
    · repeat (first | with_reducible exact Below.refl _ _ | with_reducible exact HB3.out | with_reducible refine Below.drew ?_ | with_reducible refine below_drewN ?_ _ | with_reducible refine Below.setCell ?_ ?_ _ | with_reducible refine Below.alloc ?_ ?_ _ | with_reducible exact HB2.out | with_reducible exact HB1.out | with_reducible refine Below.trans ?_ (Below.mono hb3 ?_) | with_reducible refine Below.trans ?_ (Below.mono hb5 ?_) | with_reducible refine Below.trans ?_ (Below.mono hb4 ?_) | omega | (simp; omega) | simp)
set_option maxRecDepth 100000 in
set_option maxHeartbeats 4000000 in
theorem rm_5a (a b c d : Int) (h1 : c < 1) (w : World) :
    Calls Tryd.prog 29 #[.int .i64 5, .agg #[.int .i64 a, .int .i64 b, .bool true], .agg #[.int .i64 c, .int .i64 d, .bool true]] w fun e w' => e = .returned (.agg (spC allS)) ∧ Below w.heap.size w w' := by
  go_enter Tryd.func29, Tryd.ntmps29
  go_wp2_with (go_at_call 25; refine (rAll_any _).mono ?_; rintro e w1 ⟨rfl, rfl⟩)
  all_goals
    refine bodyPost_ret (v := .agg (spC allS)) ?_ rfl ⟨rfl, ?_⟩
    · simp [results, Tryd.results29, go_sem, spC, allS, minI, maxI, *]
    · repeat (first | with_reducible exact Below.refl _ _ | with_reducible exact HB3.out | with_reducible refine Below.drew ?_ | with_reducible refine below_drewN ?_ _ | with_reducible refine Below.setCell ?_ ?_ _ | with_reducible refine Below.alloc ?_ ?_ _ | with_reducible exact HB2.out | with_reducible exact HB1.out | with_reducible refine Below.trans ?_ (Below.mono hb3 ?_) | with_reducible refine Below.trans ?_ (Below.mono hb5 ?_) | with_reducible refine Below.trans ?_ (Below.mono hb4 ?_) | omega | (simp; omega) | simp)
set_option maxRecDepth 100000 in
set_option maxHeartbeats 4000000 in
theorem rm_5b (a b c : Int) (h1 : ¬ c < 1) (ha : I64 a) (hb : I64 b) (hc : I64 c) (w : World) :
    Calls Tryd.prog 29 #[.int .i64 5, .agg #[.int .i64 a, .int .i64 b, .bool true], .agg #[.int .i64 c, .int .i64 c, .bool true]] w fun e w' => e = .returned (.agg (spC (ofS (a.tdiv c) (b.tdiv c)))) ∧ Below w.heap.size w w' := by
  unfold I64 at ha hb hc
  have q1 := tdiv_bd (a := a) (b := c) (m := 9223372036854775807) (by omega) (by omega) (by omega) (by omega)
  have q2 := tdiv_bd (a := b) (b := c) (m := 9223372036854775807) (by omega) (by omega) (by omega) (by omega)
  have w1 : IntKind.i64.wrap (a.tdiv c) = a.tdiv c := by rw [IntKind.wrap_i64]; omega
  have w2 : IntKind.i64.wrap (b.tdiv c) = b.tdiv c := by rw [IntKind.wrap_i64]; omega
  have hcn : ¬ c = 0 := by omega
  go_enter Tryd.func29, Tryd.ntmps29
  go_wp2_with fail
  obtain ⟨W, hW⟩ : ∃ W, W = ((w.alloc (.cells #[.int .i64 a, .int .i64 b, .bool true] 40)).alloc (.cells #[.int .i64 c, .int .i64 c, .bool true] 40)).alloc (.cells #[.int .i64 0, .int .i64 0, .bool false] 40) := ⟨_, rfl⟩
  rw [← hW]
  have hb : Below w.heap.size w W := by rw [hW]; repeat (first | with_reducible exact Below.refl _ _ | with_reducible exact HB3.out | with_reducible refine Below.drew ?_ | with_reducible refine below_drewN ?_ _ | with_reducible refine Below.setCell ?_ ?_ _ | with_reducible refine Below.alloc ?_ ?_ _ | with_reducible exact HB2.out | with_reducible exact HB1.out | with_reducible refine Below.trans ?_ (Below.mono hb3 ?_) | with_reducible refine Below.trans ?_ (Below.mono hb5 ?_) | with_reducible refine Below.trans ?_ (Below.mono hb4 ?_) | omega | (simp; omega) | simp)
  have hX : W.heap[w.heap.size]? = some (.cells #[.int .i64 a, .int .i64 b, .bool true] 40 (0, 0)) := by rw [hW]; exact heap_step (heap_step (heap_here w _))
  have hY : W.heap[w.heap.size + 1]? = some (.cells #[.int .i64 c, .int .i64 c, .bool true] 40 (0, 0)) := by rw [hW]; exact heap_step (heap_at (by simp))
  have hZ : W.heap[w.heap.size + 1 + 1]? = some (.cells #[.int .i64 0, .int .i64 0, .bool false] 40 (0, 0)) := by rw [hW]; exact heap_at (by simp)
  have hAll : ∀ w', Below W.heap.size W w' → w'.cell? ⟨w.heap.size, 0, none⟩ = some (.int .i64 a) ∧ w'.cell? ⟨w.heap.size, 1, none⟩ = some (.int .i64 b) ∧ w'.cell? ⟨w.heap.size + 1, 0, none⟩ = some (.int .i64 c) ∧ w'.cell? ⟨w.heap.size + 1, 1, none⟩ = some (.int .i64 c) := fun w' h => by
    have h1 := (h.block _ (ltHeap hX)).trans hX
    have h2 := (h.block _ (ltHeap hY)).trans hY
    exact ⟨(blk h1).1 0, (blk h1).1 1, (blk h2).1 0, (blk h2).1 1⟩
  have HAll := hidI hAll
  have HZ := hidI hZ
  have HB := hidI hb
  clear hAll hX hY hZ hW hb
  refine wp_region_calm (S := fun w' => Below W.heap.size W w') (by kernel_rfl) 11 ?_
  refine takeZ 0 120 (.pointer (some ⟨w.heap.size, 0, none⟩)) rfl rfl (by kernel_rfl) (by kernel_rfl) (by kernel_rfl) (by kernel_rfl) (fun _ _ _ h => h) (Or.inl ⟨by rfl, fun w' h => ?_⟩) (Below.refl _ _).drew ?_
  · obtain ⟨h1, h2, h3, h4⟩ := HAll.out w' h
    go_simp
  refine takeZ 1 121 (.int .i64 a) rfl rfl (by kernel_rfl) (by kernel_rfl) (by kernel_rfl) (by kernel_rfl) (fun _ _ _ h => h) (Or.inl ⟨by rfl, fun w' h => ?_⟩) (Below.refl _ _).drew ?_
  · obtain ⟨h1, h2, h3, h4⟩ := HAll.out w' h
    go_simp
  refine takeZ 2 122 (.pointer (some ⟨w.heap.size + 1, 0, none⟩)) rfl rfl (by kernel_rfl) (by kernel_rfl) (by kernel_rfl) (by kernel_rfl) (fun _ _ _ h => h) (Or.inl ⟨by rfl, fun w' h => ?_⟩) (Below.refl _ _).drew ?_
  · obtain ⟨h1, h2, h3, h4⟩ := HAll.out w' h
    go_simp
  refine takeZ 3 123 (.int .i64 c) rfl rfl (by kernel_rfl) (by kernel_rfl) (by kernel_rfl) (by kernel_rfl) (fun _ _ _ h => h) (Or.inl ⟨by rfl, fun w' h => ?_⟩) (Below.refl _ _).drew ?_
  · obtain ⟨h1, h2, h3, h4⟩ := HAll.out w' h
    go_simp
  refine takeZ 4 124 (.int .i64 (a.tdiv c)) rfl rfl (by kernel_rfl) (by kernel_rfl) (by kernel_rfl) (by kernel_rfl) (fun _ _ _ h => h) (Or.inl ⟨by rfl, fun w' h => ?_⟩) (Below.refl _ _).drew ?_
  · obtain ⟨h1, h2, h3, h4⟩ := HAll.out w' h
    go_simp
  refine takeZ 5 125 (.pointer (some ⟨w.heap.size, 1, none⟩)) rfl rfl (by kernel_rfl) (by kernel_rfl) (by kernel_rfl) (by kernel_rfl) (fun _ _ _ h => h) (Or.inl ⟨by rfl, fun w' h => ?_⟩) (Below.refl _ _).drew ?_
  · obtain ⟨h1, h2, h3, h4⟩ := HAll.out w' h
    go_simp
  refine takeZ 6 126 (.int .i64 b) rfl rfl (by kernel_rfl) (by kernel_rfl) (by kernel_rfl) (by kernel_rfl) (fun _ _ _ h => h) (Or.inl ⟨by rfl, fun w' h => ?_⟩) (Below.refl _ _).drew ?_
  · obtain ⟨h1, h2, h3, h4⟩ := HAll.out w' h
    go_simp
  refine takeZ 7 127 (.pointer (some ⟨w.heap.size + 1, 0, none⟩)) rfl rfl (by kernel_rfl) (by kernel_rfl) (by kernel_rfl) (by kernel_rfl) (fun _ _ _ h => h) (Or.inl ⟨by rfl, fun w' h => ?_⟩) (Below.refl _ _).drew ?_
  · obtain ⟨h1, h2, h3, h4⟩ := HAll.out w' h
    go_simp
  refine takeZ 8 128 (.int .i64 c) rfl rfl (by kernel_rfl) (by kernel_rfl) (by kernel_rfl) (by kernel_rfl) (fun _ _ _ h => h) (Or.inl ⟨by rfl, fun w' h => ?_⟩) (Below.refl _ _).drew ?_
  · obtain ⟨h1, h2, h3, h4⟩ := HAll.out w' h
    go_simp
  refine takeZ 9 129 (.int .i64 (b.tdiv c)) rfl rfl (by kernel_rfl) (by kernel_rfl) (by kernel_rfl) (by kernel_rfl) (fun _ _ _ h => h) (Or.inl ⟨by rfl, fun w' h => ?_⟩) (Below.refl _ _).drew ?_
  · obtain ⟨h1, h2, h3, h4⟩ := HAll.out w' h
    go_simp
  refine stepZ_1 (i := 10) (by kernel_rfl) (stepZ_callTo 130 rfl rfl rfl (by go_simp) (rOf_any (a.tdiv c) (b.tdiv c) _) ?_)
  rintro e w4 ⟨rfl, hw4⟩
  have hb4 : Below W.heap.size W w4 := by rw [hw4]; exact (Below.refl _ W).drew.alloc (Nat.le_refl _) _
  clear hw4
  refine ⟨_, rfl, hb4, ?_⟩
  have hZ4 := (hb4.block _ (ltHeap HZ.out)).trans HZ.out
  have z4 := ltHeap hZ4
  have c0 := (blk hZ4).1 0
  have c1 := (blk hZ4).1 1
  have c2 := (blk hZ4).1 2
  have cf := (blk hZ4).2
  simp only [List.getElem?_toArray, List.getElem?_cons_zero, List.getElem?_cons_succ] at c0 c1 c2
  obtain ⟨W5, hW5⟩ : ∃ W5, W5 = ((w4.setCell ⟨w.heap.size + 1 + 1, 0, none⟩ (.int .i64 (a.tdiv c))).setCell ⟨w.heap.size + 1 + 1, 1, none⟩ (.int .i64 (b.tdiv c))).setCell ⟨w.heap.size + 1 + 1, 2, none⟩ (.bool true) := ⟨_, rfl⟩
  refine stepZ_1 (i := 11) (by kernel_rfl) (stepZ_skipNo W5 rfl rfl rfl (by rw [hW5]; go_simp) (fun h => absurd rfl h) (wpAnyZ_done (by kernel_rfl) ?_ _))
  have hZ5 : W5.heap[w.heap.size + 1 + 1]? = some (.cells #[.int .i64 (a.tdiv c), .int .i64 (b.tdiv c), .bool true] 40 (0, 0)) := by
    rw [hW5, row_set (row_set (row_set hZ4 0 _) 1 _) 2 _]
    rfl
  have hb5 : Below w.heap.size w W5 := by
    rw [hW5]
    exact (((HB.out.trans (hb4.mono HB.out.size)).setCell (by show w.heap.size ≤ w.heap.size + 1 + 1; omega) _).setCell (by show w.heap.size ≤ w.heap.size + 1 + 1; omega) _).setCell (by show w.heap.size ≤ w.heap.size + 1 + 1; omega) _
  have e0 : W5.cell? ⟨w.heap.size + 1 + 1, 0, none⟩ = some (.int .i64 (a.tdiv c)) := (blk hZ5).1 0
  have e1 : W5.cell? ⟨w.heap.size + 1 + 1, 1, none⟩ = some (.int .i64 (b.tdiv c)) := (blk hZ5).1 1
  have e2 : W5.cell? ⟨w.heap.size + 1 + 1, 2, none⟩ = some (.bool true) := (blk hZ5).1 2
  have HB5 := hidI hb5
  clear hW5 hZ5 hb5 hb4 hZ4 c0 c1 c2 cf z4
  simp only [calm, Exit.then]
  go_simp
  go_wp2_with fail
  refine bodyPost_ret (v := .agg #[.int .i64 (a.tdiv c), .int .i64 (b.tdiv c), .bool true]) ?_ rfl ⟨rfl, HB5.out⟩
  simp [results, Tryd.results29, go_sem, e0, e1, e2]
set_option maxRecDepth 100000 in
set_option maxHeartbeats 4000000 in
theorem rm_5c (a b c d : Int) (h1 : ¬ c < 1) (h2 : ¬ c = d) (w : World) :
    Calls Tryd.prog 29 #[.int .i64 5, .agg #[.int .i64 a, .int .i64 b, .bool true], .agg #[.int .i64 c, .int .i64 d, .bool true]] w fun e w' => e = .returned (.agg (spC (ofS (min a 0) (max b 0)))) ∧ Below w.heap.size w w' := by
  go_enter Tryd.func29, Tryd.ntmps29
  go_wp2_with (go_at_call 59; refine (rOf_any _ _ _).mono ?_; rintro e w1 ⟨rfl, rfl⟩)
  all_goals
    refine bodyPost_ret (v := .agg (spC (ofS (min a 0) (max b 0)))) ?_ rfl ⟨rfl, ?_⟩
    · simp [results, Tryd.results29, go_sem, spC, ofS, *]
    · repeat (first | with_reducible exact Below.refl _ _ | with_reducible exact HB3.out | with_reducible refine Below.drew ?_ | with_reducible refine below_drewN ?_ _ | with_reducible refine Below.setCell ?_ ?_ _ | with_reducible refine Below.alloc ?_ ?_ _ | with_reducible exact HB2.out | with_reducible exact HB1.out | with_reducible refine Below.trans ?_ (Below.mono hb3 ?_) | with_reducible refine Below.trans ?_ (Below.mono hb5 ?_) | with_reducible refine Below.trans ?_ (Below.mono hb4 ?_) | omega | (simp; omega) | simp)
set_option maxRecDepth 100000 in
set_option maxHeartbeats 4000000 in
theorem rm_6a (a b c d : Int) (h1 : c < 1) (w : World) :
    Calls Tryd.prog 29 #[.int .i64 6, .agg #[.int .i64 a, .int .i64 b, .bool true], .agg #[.int .i64 c, .int .i64 d, .bool true]] w fun e w' => e = .returned (.agg (spC allS)) ∧ Below w.heap.size w w' := by
  go_enter Tryd.func29, Tryd.ntmps29
  go_wp2_with (go_at_call 25; refine (rAll_any _).mono ?_; rintro e w1 ⟨rfl, rfl⟩)
  all_goals
    refine bodyPost_ret (v := .agg (spC allS)) ?_ rfl ⟨rfl, ?_⟩
    · simp [results, Tryd.results29, go_sem, spC, allS, minI, maxI, *]
    · repeat (first | with_reducible exact Below.refl _ _ | with_reducible exact HB3.out | with_reducible refine Below.drew ?_ | with_reducible refine below_drewN ?_ _ | with_reducible refine Below.setCell ?_ ?_ _ | with_reducible refine Below.alloc ?_ ?_ _ | with_reducible exact HB2.out | with_reducible exact HB1.out | with_reducible refine Below.trans ?_ (Below.mono hb3 ?_) | with_reducible refine Below.trans ?_ (Below.mono hb5 ?_) | with_reducible refine Below.trans ?_ (Below.mono hb4 ?_) | omega | (simp; omega) | simp)
set_option maxRecDepth 100000 in
set_option maxHeartbeats 4000000 in
theorem rm_6b (a b c d : Int) (h1 : ¬ c < 1) (hx : SpOk ⟨a, b, true⟩) (hy : SpOk ⟨c, d, true⟩) (w : World) :
    Calls Tryd.prog 29 #[.int .i64 6, .agg #[.int .i64 a, .int .i64 b, .bool true], .agg #[.int .i64 c, .int .i64 d, .bool true]] w fun e w' => e = .returned (.agg (spC (divS 6 ⟨a, b, true⟩ ⟨c, d, true⟩))) ∧ Below w.heap.size w w' := by
  have HC := hidI (fun w => rRem_any ⟨a, b, true⟩ ⟨c, d, true⟩ w hx hy rfl rfl (by simp only; omega))
  obtain ⟨V, hV⟩ : ∃ V, V = divS 6 ⟨a, b, true⟩ ⟨c, d, true⟩ := ⟨_, rfl⟩
  rw [← hV] at HC ⊢
  clear hV
  obtain ⟨v1, v2, v3⟩ := V
  simp only [spC] at HC ⊢
  go_enter Tryd.func29, Tryd.ntmps29
  go_wp2_with fail
  refine (HC.out _).mono ?_
  rintro e w1 ⟨rfl, hb1⟩
  have HB1 := hidI (show Below w.heap.size w w1 from Below.trans (by repeat (first | with_reducible exact Below.refl _ _ | with_reducible exact HB3.out | with_reducible refine Below.drew ?_ | with_reducible refine below_drewN ?_ _ | with_reducible refine Below.setCell ?_ ?_ _ | with_reducible refine Below.alloc ?_ ?_ _ | with_reducible exact HB2.out | with_reducible exact HB1.out | with_reducible refine Below.trans ?_ (Below.mono hb3 ?_) | with_reducible refine Below.trans ?_ (Below.mono hb5 ?_) | with_reducible refine Below.trans ?_ (Below.mono hb4 ?_) | omega | (simp; omega) | simp)) (hb1.mono (by simp; omega)))
  have hR := heap_below hb1 (k := w.heap.size + 1 + 1) (by simp) (heap_at (w := (w.alloc (.cells #[.int .i64 a, .int .i64 b, .bool true] 40)).alloc (.cells #[.int .i64 c, .int .i64 d, .bool true] 40)) (o := .cells #[.int .i64 0, .int .i64 0, .bool false] 40) (by simp))
  have c0 := (blk hR).1 0
  have c1 := (blk hR).1 1
  have c2 := (blk hR).1 2
  have cf := (blk hR).2
  have zz := ltHeap hR
  simp only [List.getElem?_toArray, List.getElem?_cons_zero, List.getElem?_cons_succ] at c0 c1 c2
  clear hb1 hR
  go_wp2_with fail
  refine bodyPost_ret (v := .agg #[.int .i64 v1, .int .i64 v2, .bool v3]) ?_ rfl ⟨rfl, ?_⟩
  · simp [results, Tryd.results29, go_sem, *]
  · have := HB1.out.size
    repeat (first | with_reducible exact HB1.out | with_reducible refine Below.setCell ?_ ?_ _ | with_reducible refine Below.alloc ?_ ?_ _ | omega | (simp; omega) | simp)
set_option maxRecDepth 100000 in
set_option maxHeartbeats 4000000 in
theorem rm_7 (a b c d : Int) (hx : SpOk ⟨a, b, true⟩) (hy : SpOk ⟨c, d, true⟩) (w : World) :
    Calls Tryd.prog 29 #[.int .i64 7, .agg #[.int .i64 a, .int .i64 b, .bool true], .agg #[.int .i64 c, .int .i64 d, .bool true]] w fun e w' => e = .returned (.agg (spC (logS 7 ⟨a, b, true⟩ ⟨c, d, true⟩))) ∧ Below w.heap.size w w' := by
  have HC := hidI (fun w => rBits_any 7 ⟨a, b, true⟩ ⟨c, d, true⟩ w (by omega) hx hy rfl rfl)
  obtain ⟨V, hV⟩ : ∃ V, V = logS 7 ⟨a, b, true⟩ ⟨c, d, true⟩ := ⟨_, rfl⟩
  rw [← hV] at HC ⊢
  clear hV
  obtain ⟨v1, v2, v3⟩ := V
  simp only [spC] at HC ⊢
  go_enter Tryd.func29, Tryd.ntmps29
  go_wp2_with fail
  refine (HC.out _).mono ?_
  rintro e w1 ⟨rfl, hb1⟩
  have HB1 := hidI (show Below w.heap.size w w1 from Below.trans (by repeat (first | with_reducible exact Below.refl _ _ | with_reducible exact HB3.out | with_reducible refine Below.drew ?_ | with_reducible refine below_drewN ?_ _ | with_reducible refine Below.setCell ?_ ?_ _ | with_reducible refine Below.alloc ?_ ?_ _ | with_reducible exact HB2.out | with_reducible exact HB1.out | with_reducible refine Below.trans ?_ (Below.mono hb3 ?_) | with_reducible refine Below.trans ?_ (Below.mono hb5 ?_) | with_reducible refine Below.trans ?_ (Below.mono hb4 ?_) | omega | (simp; omega) | simp)) (hb1.mono (by simp; omega)))
  have hR := heap_below hb1 (k := w.heap.size + 1 + 1) (by simp) (heap_at (w := (w.alloc (.cells #[.int .i64 a, .int .i64 b, .bool true] 40)).alloc (.cells #[.int .i64 c, .int .i64 d, .bool true] 40)) (o := .cells #[.int .i64 0, .int .i64 0, .bool false] 40) (by simp))
  have c0 := (blk hR).1 0
  have c1 := (blk hR).1 1
  have c2 := (blk hR).1 2
  have cf := (blk hR).2
  have zz := ltHeap hR
  simp only [List.getElem?_toArray, List.getElem?_cons_zero, List.getElem?_cons_succ] at c0 c1 c2
  clear hb1 hR
  go_wp2_with fail
  refine bodyPost_ret (v := .agg #[.int .i64 v1, .int .i64 v2, .bool v3]) ?_ rfl ⟨rfl, ?_⟩
  · simp [results, Tryd.results29, go_sem, *]
  · have := HB1.out.size
    repeat (first | with_reducible exact HB1.out | with_reducible refine Below.setCell ?_ ?_ _ | with_reducible refine Below.alloc ?_ ?_ _ | omega | (simp; omega) | simp)
set_option maxRecDepth 100000 in
set_option maxHeartbeats 4000000 in
theorem rm_8 (a b c d : Int) (hx : SpOk ⟨a, b, true⟩) (hy : SpOk ⟨c, d, true⟩) (w : World) :
    Calls Tryd.prog 29 #[.int .i64 8, .agg #[.int .i64 a, .int .i64 b, .bool true], .agg #[.int .i64 c, .int .i64 d, .bool true]] w fun e w' => e = .returned (.agg (spC (logS 8 ⟨a, b, true⟩ ⟨c, d, true⟩))) ∧ Below w.heap.size w w' := by
  have HC := hidI (fun w => rBits_any 8 ⟨a, b, true⟩ ⟨c, d, true⟩ w (by omega) hx hy rfl rfl)
  obtain ⟨V, hV⟩ : ∃ V, V = logS 8 ⟨a, b, true⟩ ⟨c, d, true⟩ := ⟨_, rfl⟩
  rw [← hV] at HC ⊢
  clear hV
  obtain ⟨v1, v2, v3⟩ := V
  simp only [spC] at HC ⊢
  go_enter Tryd.func29, Tryd.ntmps29
  go_wp2_with fail
  refine (HC.out _).mono ?_
  rintro e w1 ⟨rfl, hb1⟩
  have HB1 := hidI (show Below w.heap.size w w1 from Below.trans (by repeat (first | with_reducible exact Below.refl _ _ | with_reducible exact HB3.out | with_reducible refine Below.drew ?_ | with_reducible refine below_drewN ?_ _ | with_reducible refine Below.setCell ?_ ?_ _ | with_reducible refine Below.alloc ?_ ?_ _ | with_reducible exact HB2.out | with_reducible exact HB1.out | with_reducible refine Below.trans ?_ (Below.mono hb3 ?_) | with_reducible refine Below.trans ?_ (Below.mono hb5 ?_) | with_reducible refine Below.trans ?_ (Below.mono hb4 ?_) | omega | (simp; omega) | simp)) (hb1.mono (by simp; omega)))
  have hR := heap_below hb1 (k := w.heap.size + 1 + 1) (by simp) (heap_at (w := (w.alloc (.cells #[.int .i64 a, .int .i64 b, .bool true] 40)).alloc (.cells #[.int .i64 c, .int .i64 d, .bool true] 40)) (o := .cells #[.int .i64 0, .int .i64 0, .bool false] 40) (by simp))
  have c0 := (blk hR).1 0
  have c1 := (blk hR).1 1
  have c2 := (blk hR).1 2
  have cf := (blk hR).2
  have zz := ltHeap hR
  simp only [List.getElem?_toArray, List.getElem?_cons_zero, List.getElem?_cons_succ] at c0 c1 c2
  clear hb1 hR
  go_wp2_with fail
  refine bodyPost_ret (v := .agg #[.int .i64 v1, .int .i64 v2, .bool v3]) ?_ rfl ⟨rfl, ?_⟩
  · simp [results, Tryd.results29, go_sem, *]
  · have := HB1.out.size
    repeat (first | with_reducible exact HB1.out | with_reducible refine Below.setCell ?_ ?_ _ | with_reducible refine Below.alloc ?_ ?_ _ | omega | (simp; omega) | simp)
set_option maxRecDepth 100000 in
set_option maxHeartbeats 4000000 in
theorem rm_9 (a b c d : Int) (hx : SpOk ⟨a, b, true⟩) (hy : SpOk ⟨c, d, true⟩) (w : World) :
    Calls Tryd.prog 29 #[.int .i64 9, .agg #[.int .i64 a, .int .i64 b, .bool true], .agg #[.int .i64 c, .int .i64 d, .bool true]] w fun e w' => e = .returned (.agg (spC (logS 9 ⟨a, b, true⟩ ⟨c, d, true⟩))) ∧ Below w.heap.size w w' := by
  have HC := hidI (fun w => rBits_any 9 ⟨a, b, true⟩ ⟨c, d, true⟩ w (by omega) hx hy rfl rfl)
  obtain ⟨V, hV⟩ : ∃ V, V = logS 9 ⟨a, b, true⟩ ⟨c, d, true⟩ := ⟨_, rfl⟩
  rw [← hV] at HC ⊢
  clear hV
  obtain ⟨v1, v2, v3⟩ := V
  simp only [spC] at HC ⊢
  go_enter Tryd.func29, Tryd.ntmps29
  go_wp2_with fail
  refine (HC.out _).mono ?_
  rintro e w1 ⟨rfl, hb1⟩
  have HB1 := hidI (show Below w.heap.size w w1 from Below.trans (by repeat (first | with_reducible exact Below.refl _ _ | with_reducible exact HB3.out | with_reducible refine Below.drew ?_ | with_reducible refine below_drewN ?_ _ | with_reducible refine Below.setCell ?_ ?_ _ | with_reducible refine Below.alloc ?_ ?_ _ | with_reducible exact HB2.out | with_reducible exact HB1.out | with_reducible refine Below.trans ?_ (Below.mono hb3 ?_) | with_reducible refine Below.trans ?_ (Below.mono hb5 ?_) | with_reducible refine Below.trans ?_ (Below.mono hb4 ?_) | omega | (simp; omega) | simp)) (hb1.mono (by simp; omega)))
  have hR := heap_below hb1 (k := w.heap.size + 1 + 1) (by simp) (heap_at (w := (w.alloc (.cells #[.int .i64 a, .int .i64 b, .bool true] 40)).alloc (.cells #[.int .i64 c, .int .i64 d, .bool true] 40)) (o := .cells #[.int .i64 0, .int .i64 0, .bool false] 40) (by simp))
  have c0 := (blk hR).1 0
  have c1 := (blk hR).1 1
  have c2 := (blk hR).1 2
  have cf := (blk hR).2
  have zz := ltHeap hR
  simp only [List.getElem?_toArray, List.getElem?_cons_zero, List.getElem?_cons_succ] at c0 c1 c2
  clear hb1 hR
  go_wp2_with fail
  refine bodyPost_ret (v := .agg #[.int .i64 v1, .int .i64 v2, .bool v3]) ?_ rfl ⟨rfl, ?_⟩
  · simp [results, Tryd.results29, go_sem, *]
  · have := HB1.out.size
    repeat (first | with_reducible exact HB1.out | with_reducible refine Below.setCell ?_ ?_ _ | with_reducible refine Below.alloc ?_ ?_ _ | omega | (simp; omega) | simp)
set_option maxRecDepth 100000 in
set_option maxHeartbeats 4000000 in
theorem rm_12 (a b c d : Int) (w : World) :
    Calls Tryd.prog 29 #[.int .i64 12, .agg #[.int .i64 a, .int .i64 b, .bool true], .agg #[.int .i64 c, .int .i64 d, .bool true]] w fun e w' => e = .returned (.agg (spC (tstS 12 ⟨a, b, true⟩ ⟨c, d, true⟩))) ∧ Below w.heap.size w w' := by
  have HC := hidI (fun w => rTest_12 a b c d w)
  obtain ⟨V, hV⟩ : ∃ V, V = tstS 12 ⟨a, b, true⟩ ⟨c, d, true⟩ := ⟨_, rfl⟩
  rw [← hV] at HC ⊢
  clear hV
  obtain ⟨v1, v2, v3⟩ := V
  simp only [spC] at HC ⊢
  go_enter Tryd.func29, Tryd.ntmps29
  go_wp2_with fail
  refine (HC.out _).mono ?_
  rintro e w1 ⟨rfl, hb1⟩
  have HB1 := hidI (show Below w.heap.size w w1 from Below.trans (by repeat (first | with_reducible exact Below.refl _ _ | with_reducible exact HB3.out | with_reducible refine Below.drew ?_ | with_reducible refine below_drewN ?_ _ | with_reducible refine Below.setCell ?_ ?_ _ | with_reducible refine Below.alloc ?_ ?_ _ | with_reducible exact HB2.out | with_reducible exact HB1.out | with_reducible refine Below.trans ?_ (Below.mono hb3 ?_) | with_reducible refine Below.trans ?_ (Below.mono hb5 ?_) | with_reducible refine Below.trans ?_ (Below.mono hb4 ?_) | omega | (simp; omega) | simp)) (hb1.mono (by simp; omega)))
  have hR := heap_below hb1 (k := w.heap.size + 1 + 1) (by simp) (heap_at (w := (w.alloc (.cells #[.int .i64 a, .int .i64 b, .bool true] 40)).alloc (.cells #[.int .i64 c, .int .i64 d, .bool true] 40)) (o := .cells #[.int .i64 0, .int .i64 0, .bool false] 40) (by simp))
  have c0 := (blk hR).1 0
  have c1 := (blk hR).1 1
  have c2 := (blk hR).1 2
  have cf := (blk hR).2
  have zz := ltHeap hR
  simp only [List.getElem?_toArray, List.getElem?_cons_zero, List.getElem?_cons_succ] at c0 c1 c2
  clear hb1 hR
  go_wp2_with fail
  refine bodyPost_ret (v := .agg #[.int .i64 v1, .int .i64 v2, .bool v3]) ?_ rfl ⟨rfl, ?_⟩
  · simp [results, Tryd.results29, go_sem, *]
  · have := HB1.out.size
    repeat (first | with_reducible exact HB1.out | with_reducible refine Below.setCell ?_ ?_ _ | with_reducible refine Below.alloc ?_ ?_ _ | omega | (simp; omega) | simp)
set_option maxRecDepth 100000 in
set_option maxHeartbeats 4000000 in
theorem rm_13 (a b c d : Int) (w : World) :
    Calls Tryd.prog 29 #[.int .i64 13, .agg #[.int .i64 a, .int .i64 b, .bool true], .agg #[.int .i64 c, .int .i64 d, .bool true]] w fun e w' => e = .returned (.agg (spC (tstS 13 ⟨a, b, true⟩ ⟨c, d, true⟩))) ∧ Below w.heap.size w w' := by
  have HC := hidI (fun w => rTest_13 a b c d w)
  obtain ⟨V, hV⟩ : ∃ V, V = tstS 13 ⟨a, b, true⟩ ⟨c, d, true⟩ := ⟨_, rfl⟩
  rw [← hV] at HC ⊢
  clear hV
  obtain ⟨v1, v2, v3⟩ := V
  simp only [spC] at HC ⊢
  go_enter Tryd.func29, Tryd.ntmps29
  go_wp2_with fail
  refine (HC.out _).mono ?_
  rintro e w1 ⟨rfl, hb1⟩
  have HB1 := hidI (show Below w.heap.size w w1 from Below.trans (by repeat (first | with_reducible exact Below.refl _ _ | with_reducible exact HB3.out | with_reducible refine Below.drew ?_ | with_reducible refine below_drewN ?_ _ | with_reducible refine Below.setCell ?_ ?_ _ | with_reducible refine Below.alloc ?_ ?_ _ | with_reducible exact HB2.out | with_reducible exact HB1.out | with_reducible refine Below.trans ?_ (Below.mono hb3 ?_) | with_reducible refine Below.trans ?_ (Below.mono hb5 ?_) | with_reducible refine Below.trans ?_ (Below.mono hb4 ?_) | omega | (simp; omega) | simp)) (hb1.mono (by simp; omega)))
  have hR := heap_below hb1 (k := w.heap.size + 1 + 1) (by simp) (heap_at (w := (w.alloc (.cells #[.int .i64 a, .int .i64 b, .bool true] 40)).alloc (.cells #[.int .i64 c, .int .i64 d, .bool true] 40)) (o := .cells #[.int .i64 0, .int .i64 0, .bool false] 40) (by simp))
  have c0 := (blk hR).1 0
  have c1 := (blk hR).1 1
  have c2 := (blk hR).1 2
  have cf := (blk hR).2
  have zz := ltHeap hR
  simp only [List.getElem?_toArray, List.getElem?_cons_zero, List.getElem?_cons_succ] at c0 c1 c2
  clear hb1 hR
  go_wp2_with fail
  refine bodyPost_ret (v := .agg #[.int .i64 v1, .int .i64 v2, .bool v3]) ?_ rfl ⟨rfl, ?_⟩
  · simp [results, Tryd.results29, go_sem, *]
  · have := HB1.out.size
    repeat (first | with_reducible exact HB1.out | with_reducible refine Below.setCell ?_ ?_ _ | with_reducible refine Below.alloc ?_ ?_ _ | omega | (simp; omega) | simp)
set_option maxRecDepth 100000 in
set_option maxHeartbeats 4000000 in
theorem rm_14 (a b c d : Int) (w : World) :
    Calls Tryd.prog 29 #[.int .i64 14, .agg #[.int .i64 a, .int .i64 b, .bool true], .agg #[.int .i64 c, .int .i64 d, .bool true]] w fun e w' => e = .returned (.agg (spC (tstS 14 ⟨a, b, true⟩ ⟨c, d, true⟩))) ∧ Below w.heap.size w w' := by
  have HC := hidI (fun w => rTest_14 a b c d w)
  obtain ⟨V, hV⟩ : ∃ V, V = tstS 14 ⟨a, b, true⟩ ⟨c, d, true⟩ := ⟨_, rfl⟩
  rw [← hV] at HC ⊢
  clear hV
  obtain ⟨v1, v2, v3⟩ := V
  simp only [spC] at HC ⊢
  go_enter Tryd.func29, Tryd.ntmps29
  go_wp2_with fail
  refine (HC.out _).mono ?_
  rintro e w1 ⟨rfl, hb1⟩
  have HB1 := hidI (show Below w.heap.size w w1 from Below.trans (by repeat (first | with_reducible exact Below.refl _ _ | with_reducible exact HB3.out | with_reducible refine Below.drew ?_ | with_reducible refine below_drewN ?_ _ | with_reducible refine Below.setCell ?_ ?_ _ | with_reducible refine Below.alloc ?_ ?_ _ | with_reducible exact HB2.out | with_reducible exact HB1.out | with_reducible refine Below.trans ?_ (Below.mono hb3 ?_) | with_reducible refine Below.trans ?_ (Below.mono hb5 ?_) | with_reducible refine Below.trans ?_ (Below.mono hb4 ?_) | omega | (simp; omega) | simp)) (hb1.mono (by simp; omega)))
  have hR := heap_below hb1 (k := w.heap.size + 1 + 1) (by simp) (heap_at (w := (w.alloc (.cells #[.int .i64 a, .int .i64 b, .bool true] 40)).alloc (.cells #[.int .i64 c, .int .i64 d, .bool true] 40)) (o := .cells #[.int .i64 0, .int .i64 0, .bool false] 40) (by simp))
  have c0 := (blk hR).1 0
  have c1 := (blk hR).1 1
  have c2 := (blk hR).1 2
  have cf := (blk hR).2
  have zz := ltHeap hR
  simp only [List.getElem?_toArray, List.getElem?_cons_zero, List.getElem?_cons_succ] at c0 c1 c2
  clear hb1 hR
  go_wp2_with fail
  refine bodyPost_ret (v := .agg #[.int .i64 v1, .int .i64 v2, .bool v3]) ?_ rfl ⟨rfl, ?_⟩
  · simp [results, Tryd.results29, go_sem, *]
  · have := HB1.out.size
    repeat (first | with_reducible exact HB1.out | with_reducible refine Below.setCell ?_ ?_ _ | with_reducible refine Below.alloc ?_ ?_ _ | omega | (simp; omega) | simp)
set_option maxRecDepth 100000 in
set_option maxHeartbeats 4000000 in
theorem rm_15 (a b c d : Int) (w : World) :
    Calls Tryd.prog 29 #[.int .i64 15, .agg #[.int .i64 a, .int .i64 b, .bool true], .agg #[.int .i64 c, .int .i64 d, .bool true]] w fun e w' => e = .returned (.agg (spC (tstS 15 ⟨a, b, true⟩ ⟨c, d, true⟩))) ∧ Below w.heap.size w w' := by
  have HC := hidI (fun w => rTest_15 a b c d w)
  obtain ⟨V, hV⟩ : ∃ V, V = tstS 15 ⟨a, b, true⟩ ⟨c, d, true⟩ := ⟨_, rfl⟩
  rw [← hV] at HC ⊢
  clear hV
  obtain ⟨v1, v2, v3⟩ := V
  simp only [spC] at HC ⊢
  go_enter Tryd.func29, Tryd.ntmps29
  go_wp2_with fail
  refine (HC.out _).mono ?_
  rintro e w1 ⟨rfl, hb1⟩
  have HB1 := hidI (show Below w.heap.size w w1 from Below.trans (by repeat (first | with_reducible exact Below.refl _ _ | with_reducible exact HB3.out | with_reducible refine Below.drew ?_ | with_reducible refine below_drewN ?_ _ | with_reducible refine Below.setCell ?_ ?_ _ | with_reducible refine Below.alloc ?_ ?_ _ | with_reducible exact HB2.out | with_reducible exact HB1.out | with_reducible refine Below.trans ?_ (Below.mono hb3 ?_) | with_reducible refine Below.trans ?_ (Below.mono hb5 ?_) | with_reducible refine Below.trans ?_ (Below.mono hb4 ?_) | omega | (simp; omega) | simp)) (hb1.mono (by simp; omega)))
  have hR := heap_below hb1 (k := w.heap.size + 1 + 1) (by simp) (heap_at (w := (w.alloc (.cells #[.int .i64 a, .int .i64 b, .bool true] 40)).alloc (.cells #[.int .i64 c, .int .i64 d, .bool true] 40)) (o := .cells #[.int .i64 0, .int .i64 0, .bool false] 40) (by simp))
  have c0 := (blk hR).1 0
  have c1 := (blk hR).1 1
  have c2 := (blk hR).1 2
  have cf := (blk hR).2
  have zz := ltHeap hR
  simp only [List.getElem?_toArray, List.getElem?_cons_zero, List.getElem?_cons_succ] at c0 c1 c2
  clear hb1 hR
  go_wp2_with fail
  refine bodyPost_ret (v := .agg #[.int .i64 v1, .int .i64 v2, .bool v3]) ?_ rfl ⟨rfl, ?_⟩
  · simp [results, Tryd.results29, go_sem, *]
  · have := HB1.out.size
    repeat (first | with_reducible exact HB1.out | with_reducible refine Below.setCell ?_ ?_ _ | with_reducible refine Below.alloc ?_ ?_ _ | omega | (simp; omega) | simp)
theorem rTwo_x (op a b : Int) (hop : 1 ≤ op ∧ op ≤ 17) (ha : I64 a) (w : World) :
    Calls Tryd.prog 63 #[.int .i64 op, .int .i64 a, .int .i64 b] w fun e w' => e = .returned (.tuple #[.int .i64 (twoL op a b).1, .bool (twoL op a b).2]) ∧ w' = w :=
  (rtwo_any op a b hop ha w).mono fun _ _ h => ⟨h.1, h.2.symm⟩
set_option maxRecDepth 100000 in
set_option maxHeartbeats 4000000 in
theorem rm_10a (a c : Int) (ha1 : I64 a) (w : World) :
    Calls Tryd.prog 29 #[.int .i64 10, .agg #[.int .i64 a, .int .i64 a, .bool true], .agg #[.int .i64 c, .int .i64 c, .bool true]] w fun e w' => e = .returned (.agg (spC (ofS (twoL 10 a c).1 (twoL 10 a c).1))) ∧ Below w.heap.size w w' := by
  obtain ⟨n, hv1⟩ : ∃ n, n = (twoL 10 a c).1 := ⟨_, rfl⟩
  have HT1 := hidI (fun w => rTwo_x 10 a c (by omega) ha1 w)
  rw [← hv1] at HT1 ⊢
  clear hv1
  obtain ⟨t1, ht1⟩ : ∃ t, t = (twoL 10 a c).2 := ⟨_, rfl⟩
  rw [← ht1] at HT1
  clear ht1
  go_enter Tryd.func29, Tryd.ntmps29
  go_wp2_with (first | (go_at_call 63; first | ((with_reducible refine (HT1.out _).mono ?_); rintro e w1 ⟨rfl, rfl⟩)) | (go_at_call 59; refine (rOf_any _ _ _).mono ?_; rintro e w1 ⟨rfl, rfl⟩))
  all_goals
    refine bodyPost_ret (v := .agg (spC (ofS n n))) ?_ rfl ⟨rfl, ?_⟩
    · simp [results, Tryd.results29, go_sem, spC, ofS, *]
    · repeat (first | with_reducible exact Below.refl _ _ | with_reducible exact HB3.out | with_reducible refine Below.drew ?_ | with_reducible refine below_drewN ?_ _ | with_reducible refine Below.setCell ?_ ?_ _ | with_reducible refine Below.alloc ?_ ?_ _ | with_reducible exact HB2.out | with_reducible exact HB1.out | with_reducible refine Below.trans ?_ (Below.mono hb3 ?_) | with_reducible refine Below.trans ?_ (Below.mono hb5 ?_) | with_reducible refine Below.trans ?_ (Below.mono hb4 ?_) | omega | (simp; omega) | simp)
set_option maxRecDepth 100000 in
set_option maxHeartbeats 4000000 in
theorem rm_10b (a b c d : Int) (h : ¬ (a = b ∧ c = d)) (w : World) :
    Calls Tryd.prog 29 #[.int .i64 10, .agg #[.int .i64 a, .int .i64 b, .bool true], .agg #[.int .i64 c, .int .i64 d, .bool true]] w fun e w' => e = .returned (.agg (spC allS)) ∧ Below w.heap.size w w' := by
  by_cases hc : c = d
  · have hab : ¬ a = b := fun e => h ⟨e, hc⟩
    subst hc
    clear h
    go_enter Tryd.func29, Tryd.ntmps29
    go_wp2_with (go_at_call 25; refine (rAll_any _).mono ?_; rintro e w1 ⟨rfl, rfl⟩)
    all_goals
      refine bodyPost_ret (v := .agg (spC allS)) ?_ rfl ⟨rfl, ?_⟩
      · simp [results, Tryd.results29, go_sem, spC, allS, minI, maxI, *]
      · repeat (first | with_reducible exact Below.refl _ _ | with_reducible exact HB3.out | with_reducible refine Below.drew ?_ | with_reducible refine below_drewN ?_ _ | with_reducible refine Below.setCell ?_ ?_ _ | with_reducible refine Below.alloc ?_ ?_ _ | with_reducible exact HB2.out | with_reducible exact HB1.out | with_reducible refine Below.trans ?_ (Below.mono hb3 ?_) | with_reducible refine Below.trans ?_ (Below.mono hb5 ?_) | with_reducible refine Below.trans ?_ (Below.mono hb4 ?_) | omega | (simp; omega) | simp)
  · clear h
    go_enter Tryd.func29, Tryd.ntmps29
    go_wp2_with (go_at_call 25; refine (rAll_any _).mono ?_; rintro e w1 ⟨rfl, rfl⟩)
    all_goals
      refine bodyPost_ret (v := .agg (spC allS)) ?_ rfl ⟨rfl, ?_⟩
      · simp [results, Tryd.results29, go_sem, spC, allS, minI, maxI, *]
      · repeat (first | with_reducible exact Below.refl _ _ | with_reducible exact HB3.out | with_reducible refine Below.drew ?_ | with_reducible refine below_drewN ?_ _ | with_reducible refine Below.setCell ?_ ?_ _ | with_reducible refine Below.alloc ?_ ?_ _ | with_reducible exact HB2.out | with_reducible exact HB1.out | with_reducible refine Below.trans ?_ (Below.mono hb3 ?_) | with_reducible refine Below.trans ?_ (Below.mono hb5 ?_) | with_reducible refine Below.trans ?_ (Below.mono hb4 ?_) | omega | (simp; omega) | simp)
set_option maxRecDepth 100000 in
set_option maxHeartbeats 4000000 in
theorem rm_11a (a b c : Int) (ha1 : I64 a) (ha2 : I64 b) (w : World) :
    Calls Tryd.prog 29 #[.int .i64 11, .agg #[.int .i64 a, .int .i64 b, .bool true], .agg #[.int .i64 c, .int .i64 c, .bool true]] w fun e w' => e = .returned (.agg (spC (ofS (twoL 11 a c).1 (twoL 11 b c).1))) ∧ Below w.heap.size w w' := by
  obtain ⟨n, hv1⟩ : ∃ n, n = (twoL 11 a c).1 := ⟨_, rfl⟩
  have HT1 := hidI (fun w => rTwo_x 11 a c (by omega) ha1 w)
  rw [← hv1] at HT1 ⊢
  clear hv1
  obtain ⟨t1, ht1⟩ : ∃ t, t = (twoL 11 a c).2 := ⟨_, rfl⟩
  rw [← ht1] at HT1
  clear ht1
  obtain ⟨m, hv2⟩ : ∃ n, n = (twoL 11 b c).1 := ⟨_, rfl⟩
  have HT2 := hidI (fun w => rTwo_x 11 b c (by omega) ha2 w)
  rw [← hv2] at HT2 ⊢
  clear hv2
  obtain ⟨t2, ht2⟩ : ∃ t, t = (twoL 11 b c).2 := ⟨_, rfl⟩
  rw [← ht2] at HT2
  clear ht2
  go_enter Tryd.func29, Tryd.ntmps29
  go_wp2_with (first | (go_at_call 63; first | ((with_reducible refine (HT1.out _).mono ?_); rintro e w1 ⟨rfl, rfl⟩) | ((with_reducible refine (HT2.out _).mono ?_); rintro e w1 ⟨rfl, rfl⟩)) | (go_at_call 59; refine (rOf_any _ _ _).mono ?_; rintro e w1 ⟨rfl, rfl⟩))
  all_goals
    refine bodyPost_ret (v := .agg (spC (ofS n m))) ?_ rfl ⟨rfl, ?_⟩
    · simp [results, Tryd.results29, go_sem, spC, ofS, *]
    · repeat (first | with_reducible exact Below.refl _ _ | with_reducible exact HB3.out | with_reducible refine Below.drew ?_ | with_reducible refine below_drewN ?_ _ | with_reducible refine Below.setCell ?_ ?_ _ | with_reducible refine Below.alloc ?_ ?_ _ | with_reducible exact HB2.out | with_reducible exact HB1.out | with_reducible refine Below.trans ?_ (Below.mono hb3 ?_) | with_reducible refine Below.trans ?_ (Below.mono hb5 ?_) | with_reducible refine Below.trans ?_ (Below.mono hb4 ?_) | omega | (simp; omega) | simp)
set_option maxRecDepth 100000 in
set_option maxHeartbeats 4000000 in
theorem rm_11b (a b c d : Int) (h : ¬ c = d) (w : World) :
    Calls Tryd.prog 29 #[.int .i64 11, .agg #[.int .i64 a, .int .i64 b, .bool true], .agg #[.int .i64 c, .int .i64 d, .bool true]] w fun e w' => e = .returned (.agg (spC (ofS (min a 0) (max b (-1))))) ∧ Below w.heap.size w w' := by
  go_enter Tryd.func29, Tryd.ntmps29
  go_wp2_with (go_at_call 59; refine (rOf_any _ _ _).mono ?_; rintro e w1 ⟨rfl, rfl⟩)
  all_goals
    refine bodyPost_ret (v := .agg (spC (ofS (min a 0) (max b (-1))))) ?_ rfl ⟨rfl, ?_⟩
    · simp [results, Tryd.results29, go_sem, spC, ofS, *]
    · repeat (first | with_reducible exact Below.refl _ _ | with_reducible exact HB3.out | with_reducible refine Below.drew ?_ | with_reducible refine below_drewN ?_ _ | with_reducible refine Below.setCell ?_ ?_ _ | with_reducible refine Below.alloc ?_ ?_ _ | with_reducible exact HB2.out | with_reducible exact HB1.out | with_reducible refine Below.trans ?_ (Below.mono hb3 ?_) | with_reducible refine Below.trans ?_ (Below.mono hb5 ?_) | with_reducible refine Below.trans ?_ (Below.mono hb4 ?_) | omega | (simp; omega) | simp)
set_option maxRecDepth 100000 in
set_option maxHeartbeats 4000000 in
theorem rm_2 (a b c d : Int) (ha : I64 a) (hb : I64 b) (hc : I64 c) (hd : I64 d) (w : World) :
    Calls Tryd.prog 29 #[.int .i64 2, .agg #[.int .i64 a, .int .i64 b, .bool true], .agg #[.int .i64 c, .int .i64 d, .bool true]] w fun e w' => e = .returned (.agg (spC (overS [a + c, b + d] noS'))) ∧ Below w.heap.size w w' := by
  obtain ⟨V, hV⟩ : ∃ V, V = overS [a + c, b + d] noS' := ⟨_, rfl⟩
  have HV := hidI hV
  rw [← hV]
  clear hV
  go_enter Tryd.func29, Tryd.ntmps29
  go_wp2_with fail
  obtain ⟨W, hW⟩ : ∃ W, W = (((((w.alloc (.cells #[.int .i64 a, .int .i64 b, .bool true] 40)).alloc (.cells #[.int .i64 c, .int .i64 d, .bool true] 40)).alloc (.cells #[.int .i64 0, .int .i64 0, .bool false] 40)).alloc (.cells #[.int .i64 a, .int .i64 b] 3)).alloc (.cells #[.int .i64 c, .int .i64 d] 3)) := ⟨_, rfl⟩
  rw [← hW]
  have HB := hidI (show Below w.heap.size w W by rw [hW]; repeat (first | with_reducible exact Below.refl _ _ | with_reducible exact HB3.out | with_reducible refine Below.drew ?_ | with_reducible refine below_drewN ?_ _ | with_reducible refine Below.setCell ?_ ?_ _ | with_reducible refine Below.alloc ?_ ?_ _ | with_reducible exact HB2.out | with_reducible exact HB1.out | with_reducible refine Below.trans ?_ (Below.mono hb3 ?_) | with_reducible refine Below.trans ?_ (Below.mono hb5 ?_) | with_reducible refine Below.trans ?_ (Below.mono hb4 ?_) | omega | (simp; omega) | simp))
  have hR : W.heap[w.heap.size + 1 + 1]? = some (.cells #[.int .i64 0, .int .i64 0, .bool false] 40 (0, 0)) := by rw [hW]; exact heap_step (heap_step (heap_at (by simp)))
  have hX : W.heap[w.heap.size + 1 + 1 + 1]? = some (.cells #[.int .i64 a, .int .i64 b] 3 (0, 0)) := by rw [hW]; exact heap_step (heap_at (by simp))
  have hY : W.heap[w.heap.size + 1 + 1 + 1 + 1]? = some (.cells #[.int .i64 c, .int .i64 d] 3 (0, 0)) := by rw [hW]; exact heap_at (by simp)
  clear hW
  have hO := rOver_any 2 [(a, c), (b, d)] _ _ W (by omega) (by simp) (fun p hp => by simp only [List.mem_cons, List.not_mem_nil, or_false] at hp; rcases hp with rfl | rfl <;> exact ⟨by first | assumption | (unfold I64; omega), by first | assumption | (unfold I64; omega)⟩) (fun i h => by
      have hi : i = 0 ∨ i = 1 := by have h : i < 2 := h; omega
      rcases hi with rfl | rfl
      · exact (blk hX).1 0
      · exact (blk hX).1 1) (fun i h => by
      have hi : i = 0 ∨ i = 1 := by have h : i < 2 := h; omega
      rcases hi with rfl | rfl
      · exact (blk hY).1 0
      · exact (blk hY).1 1)
  rw [show overS (pairsI 2 [(a, c), (b, d)]) noS' = V from HV.out.symm] at hO
  clear HV
  obtain ⟨v1, v2, v3⟩ := V
  refine hO.mono ?_
  rintro e w1 ⟨rfl, hb1⟩
  have HB1 := hidI (HB.out.trans (hb1.mono HB.out.size))
  have hR1 := (hb1.block _ (ltHeap hR)).trans hR
  have c0 := (blk hR1).1 0
  have c1 := (blk hR1).1 1
  have c2 := (blk hR1).1 2
  have cf := (blk hR1).2
  have zz := ltHeap hR1
  simp only [List.getElem?_toArray, List.getElem?_cons_zero, List.getElem?_cons_succ] at c0 c1 c2
  clear hb1 hR hR1 hX hY hO HB
  go_wp2_with fail
  refine bodyPost_ret (v := .agg #[.int .i64 v1, .int .i64 v2, .bool v3]) ?_ rfl ⟨rfl, ?_⟩
  · simp [results, Tryd.results29, go_sem, *]
  · have := HB1.out.size
    repeat (first | with_reducible exact HB1.out | with_reducible refine Below.setCell ?_ ?_ _ | with_reducible refine Below.alloc ?_ ?_ _ | omega | (simp; omega) | simp)
set_option maxRecDepth 100000 in
set_option maxHeartbeats 4000000 in
theorem rm_3 (a b c d : Int) (ha : I64 a) (hb : I64 b) (hc : I64 c) (hd : I64 d) (w : World) :
    Calls Tryd.prog 29 #[.int .i64 3, .agg #[.int .i64 a, .int .i64 b, .bool true], .agg #[.int .i64 c, .int .i64 d, .bool true]] w fun e w' => e = .returned (.agg (spC (overS [a - d, b - c] noS'))) ∧ Below w.heap.size w w' := by
  obtain ⟨V, hV⟩ : ∃ V, V = overS [a - d, b - c] noS' := ⟨_, rfl⟩
  have HV := hidI hV
  rw [← hV]
  clear hV
  go_enter Tryd.func29, Tryd.ntmps29
  go_wp2_with fail
  obtain ⟨W, hW⟩ : ∃ W, W = (((((w.alloc (.cells #[.int .i64 a, .int .i64 b, .bool true] 40)).alloc (.cells #[.int .i64 c, .int .i64 d, .bool true] 40)).alloc (.cells #[.int .i64 0, .int .i64 0, .bool false] 40)).alloc (.cells #[.int .i64 a, .int .i64 b] 3)).alloc (.cells #[.int .i64 d, .int .i64 c] 3)) := ⟨_, rfl⟩
  rw [← hW]
  have HB := hidI (show Below w.heap.size w W by rw [hW]; repeat (first | with_reducible exact Below.refl _ _ | with_reducible exact HB3.out | with_reducible refine Below.drew ?_ | with_reducible refine below_drewN ?_ _ | with_reducible refine Below.setCell ?_ ?_ _ | with_reducible refine Below.alloc ?_ ?_ _ | with_reducible exact HB2.out | with_reducible exact HB1.out | with_reducible refine Below.trans ?_ (Below.mono hb3 ?_) | with_reducible refine Below.trans ?_ (Below.mono hb5 ?_) | with_reducible refine Below.trans ?_ (Below.mono hb4 ?_) | omega | (simp; omega) | simp))
  have hR : W.heap[w.heap.size + 1 + 1]? = some (.cells #[.int .i64 0, .int .i64 0, .bool false] 40 (0, 0)) := by rw [hW]; exact heap_step (heap_step (heap_at (by simp)))
  have hX : W.heap[w.heap.size + 1 + 1 + 1]? = some (.cells #[.int .i64 a, .int .i64 b] 3 (0, 0)) := by rw [hW]; exact heap_step (heap_at (by simp))
  have hY : W.heap[w.heap.size + 1 + 1 + 1 + 1]? = some (.cells #[.int .i64 d, .int .i64 c] 3 (0, 0)) := by rw [hW]; exact heap_at (by simp)
  clear hW
  have hO := rOver_any 3 [(a, d), (b, c)] _ _ W (by omega) (by simp) (fun p hp => by simp only [List.mem_cons, List.not_mem_nil, or_false] at hp; rcases hp with rfl | rfl <;> exact ⟨by first | assumption | (unfold I64; omega), by first | assumption | (unfold I64; omega)⟩) (fun i h => by
      have hi : i = 0 ∨ i = 1 := by have h : i < 2 := h; omega
      rcases hi with rfl | rfl
      · exact (blk hX).1 0
      · exact (blk hX).1 1) (fun i h => by
      have hi : i = 0 ∨ i = 1 := by have h : i < 2 := h; omega
      rcases hi with rfl | rfl
      · exact (blk hY).1 0
      · exact (blk hY).1 1)
  rw [show overS (pairsI 3 [(a, d), (b, c)]) noS' = V from HV.out.symm] at hO
  clear HV
  obtain ⟨v1, v2, v3⟩ := V
  refine hO.mono ?_
  rintro e w1 ⟨rfl, hb1⟩
  have HB1 := hidI (HB.out.trans (hb1.mono HB.out.size))
  have hR1 := (hb1.block _ (ltHeap hR)).trans hR
  have c0 := (blk hR1).1 0
  have c1 := (blk hR1).1 1
  have c2 := (blk hR1).1 2
  have cf := (blk hR1).2
  have zz := ltHeap hR1
  simp only [List.getElem?_toArray, List.getElem?_cons_zero, List.getElem?_cons_succ] at c0 c1 c2
  clear hb1 hR hR1 hX hY hO HB
  go_wp2_with fail
  refine bodyPost_ret (v := .agg #[.int .i64 v1, .int .i64 v2, .bool v3]) ?_ rfl ⟨rfl, ?_⟩
  · simp [results, Tryd.results29, go_sem, *]
  · have := HB1.out.size
    repeat (first | with_reducible exact HB1.out | with_reducible refine Below.setCell ?_ ?_ _ | with_reducible refine Below.alloc ?_ ?_ _ | omega | (simp; omega) | simp)
set_option maxRecDepth 100000 in
set_option maxHeartbeats 4000000 in
theorem rm_4 (a b c d : Int) (ha : I64 a) (hb : I64 b) (hc : I64 c) (hd : I64 d) (w : World) :
    Calls Tryd.prog 29 #[.int .i64 4, .agg #[.int .i64 a, .int .i64 b, .bool true], .agg #[.int .i64 c, .int .i64 d, .bool true]] w fun e w' => e = .returned (.agg (spC (overS [a * c, a * d, b * c, b * d] noS'))) ∧ Below w.heap.size w w' := by
  obtain ⟨V, hV⟩ : ∃ V, V = overS [a * c, a * d, b * c, b * d] noS' := ⟨_, rfl⟩
  have HV := hidI hV
  rw [← hV]
  clear hV
  go_enter Tryd.func29, Tryd.ntmps29
  go_wp2_with fail
  obtain ⟨W, hW⟩ : ∃ W, W = (((((w.alloc (.cells #[.int .i64 a, .int .i64 b, .bool true] 40)).alloc (.cells #[.int .i64 c, .int .i64 d, .bool true] 40)).alloc (.cells #[.int .i64 0, .int .i64 0, .bool false] 40)).alloc (.cells #[.int .i64 a, .int .i64 a, .int .i64 b, .int .i64 b] 3)).alloc (.cells #[.int .i64 c, .int .i64 d, .int .i64 c, .int .i64 d] 3)) := ⟨_, rfl⟩
  rw [← hW]
  have HB := hidI (show Below w.heap.size w W by rw [hW]; repeat (first | with_reducible exact Below.refl _ _ | with_reducible exact HB3.out | with_reducible refine Below.drew ?_ | with_reducible refine below_drewN ?_ _ | with_reducible refine Below.setCell ?_ ?_ _ | with_reducible refine Below.alloc ?_ ?_ _ | with_reducible exact HB2.out | with_reducible exact HB1.out | with_reducible refine Below.trans ?_ (Below.mono hb3 ?_) | with_reducible refine Below.trans ?_ (Below.mono hb5 ?_) | with_reducible refine Below.trans ?_ (Below.mono hb4 ?_) | omega | (simp; omega) | simp))
  have hR : W.heap[w.heap.size + 1 + 1]? = some (.cells #[.int .i64 0, .int .i64 0, .bool false] 40 (0, 0)) := by rw [hW]; exact heap_step (heap_step (heap_at (by simp)))
  have hX : W.heap[w.heap.size + 1 + 1 + 1]? = some (.cells #[.int .i64 a, .int .i64 a, .int .i64 b, .int .i64 b] 3 (0, 0)) := by rw [hW]; exact heap_step (heap_at (by simp))
  have hY : W.heap[w.heap.size + 1 + 1 + 1 + 1]? = some (.cells #[.int .i64 c, .int .i64 d, .int .i64 c, .int .i64 d] 3 (0, 0)) := by rw [hW]; exact heap_at (by simp)
  clear hW
  have hO := rOver_any 4 [(a, c), (a, d), (b, c), (b, d)] _ _ W (by omega) (by simp) (fun p hp => by simp only [List.mem_cons, List.not_mem_nil, or_false] at hp; rcases hp with rfl | rfl | rfl | rfl <;> exact ⟨by first | assumption | (unfold I64; omega), by first | assumption | (unfold I64; omega)⟩) (fun i h => by
      have hi : i = 0 ∨ i = 1 ∨ i = 2 ∨ i = 3 := by have h : i < 4 := h; omega
      rcases hi with rfl | rfl | rfl | rfl
      · exact (blk hX).1 0
      · exact (blk hX).1 1
      · exact (blk hX).1 2
      · exact (blk hX).1 3) (fun i h => by
      have hi : i = 0 ∨ i = 1 ∨ i = 2 ∨ i = 3 := by have h : i < 4 := h; omega
      rcases hi with rfl | rfl | rfl | rfl
      · exact (blk hY).1 0
      · exact (blk hY).1 1
      · exact (blk hY).1 2
      · exact (blk hY).1 3)
  rw [show overS (pairsI 4 [(a, c), (a, d), (b, c), (b, d)]) noS' = V from HV.out.symm] at hO
  clear HV
  obtain ⟨v1, v2, v3⟩ := V
  refine hO.mono ?_
  rintro e w1 ⟨rfl, hb1⟩
  have HB1 := hidI (HB.out.trans (hb1.mono HB.out.size))
  have hR1 := (hb1.block _ (ltHeap hR)).trans hR
  have c0 := (blk hR1).1 0
  have c1 := (blk hR1).1 1
  have c2 := (blk hR1).1 2
  have cf := (blk hR1).2
  have zz := ltHeap hR1
  simp only [List.getElem?_toArray, List.getElem?_cons_zero, List.getElem?_cons_succ] at c0 c1 c2
  clear hb1 hR hR1 hX hY hO HB
  go_wp2_with fail
  refine bodyPost_ret (v := .agg #[.int .i64 v1, .int .i64 v2, .bool v3]) ?_ rfl ⟨rfl, ?_⟩
  · simp [results, Tryd.results29, go_sem, *]
  · have := HB1.out.size
    repeat (first | with_reducible exact HB1.out | with_reducible refine Below.setCell ?_ ?_ _ | with_reducible refine Below.alloc ?_ ?_ _ | omega | (simp; omega) | simp)
set_option maxRecDepth 100000 in
set_option maxHeartbeats 4000000 in
theorem rm_16 (a b c d : Int) (s2 : Bool) (ha : I64 a) (hb : I64 b) (w : World) :
    Calls Tryd.prog 29 #[.int .i64 16, .agg #[.int .i64 a, .int .i64 b, .bool true], .agg #[.int .i64 c, .int .i64 d, .bool s2]] w fun e w' => e = .returned (.agg (spC (overS [0 - b, 0 - a] noS'))) ∧ Below w.heap.size w w' := by
  obtain ⟨V, hV⟩ : ∃ V, V = overS [0 - b, 0 - a] noS' := ⟨_, rfl⟩
  have HV := hidI hV
  rw [← hV]
  clear hV
  go_enter Tryd.func29, Tryd.ntmps29
  go_wp2_with fail
  obtain ⟨W, hW⟩ : ∃ W, W = (((((w.alloc (.cells #[.int .i64 a, .int .i64 b, .bool true] 40)).alloc (.cells #[.int .i64 c, .int .i64 d, .bool s2] 40)).alloc (.cells #[.int .i64 0, .int .i64 0, .bool false] 40)).alloc (.cells #[.int .i64 0, .int .i64 0] 3)).alloc (.cells #[.int .i64 b, .int .i64 a] 3)) := ⟨_, rfl⟩
  rw [← hW]
  have HB := hidI (show Below w.heap.size w W by rw [hW]; repeat (first | with_reducible exact Below.refl _ _ | with_reducible exact HB3.out | with_reducible refine Below.drew ?_ | with_reducible refine below_drewN ?_ _ | with_reducible refine Below.setCell ?_ ?_ _ | with_reducible refine Below.alloc ?_ ?_ _ | with_reducible exact HB2.out | with_reducible exact HB1.out | with_reducible refine Below.trans ?_ (Below.mono hb3 ?_) | with_reducible refine Below.trans ?_ (Below.mono hb5 ?_) | with_reducible refine Below.trans ?_ (Below.mono hb4 ?_) | omega | (simp; omega) | simp))
  have hR : W.heap[w.heap.size + 1 + 1]? = some (.cells #[.int .i64 0, .int .i64 0, .bool false] 40 (0, 0)) := by rw [hW]; exact heap_step (heap_step (heap_at (by simp)))
  have hX : W.heap[w.heap.size + 1 + 1 + 1]? = some (.cells #[.int .i64 0, .int .i64 0] 3 (0, 0)) := by rw [hW]; exact heap_step (heap_at (by simp))
  have hY : W.heap[w.heap.size + 1 + 1 + 1 + 1]? = some (.cells #[.int .i64 b, .int .i64 a] 3 (0, 0)) := by rw [hW]; exact heap_at (by simp)
  clear hW
  have hO := rOver_any 3 [(0, b), (0, a)] _ _ W (by omega) (by simp) (fun p hp => by simp only [List.mem_cons, List.not_mem_nil, or_false] at hp; rcases hp with rfl | rfl <;> exact ⟨by first | assumption | (unfold I64; omega), by first | assumption | (unfold I64; omega)⟩) (fun i h => by
      have hi : i = 0 ∨ i = 1 := by have h : i < 2 := h; omega
      rcases hi with rfl | rfl
      · exact (blk hX).1 0
      · exact (blk hX).1 1) (fun i h => by
      have hi : i = 0 ∨ i = 1 := by have h : i < 2 := h; omega
      rcases hi with rfl | rfl
      · exact (blk hY).1 0
      · exact (blk hY).1 1)
  rw [show overS (pairsI 3 [(0, b), (0, a)]) noS' = V from HV.out.symm] at hO
  clear HV
  obtain ⟨v1, v2, v3⟩ := V
  refine hO.mono ?_
  rintro e w1 ⟨rfl, hb1⟩
  have HB1 := hidI (HB.out.trans (hb1.mono HB.out.size))
  have hR1 := (hb1.block _ (ltHeap hR)).trans hR
  have c0 := (blk hR1).1 0
  have c1 := (blk hR1).1 1
  have c2 := (blk hR1).1 2
  have cf := (blk hR1).2
  have zz := ltHeap hR1
  simp only [List.getElem?_toArray, List.getElem?_cons_zero, List.getElem?_cons_succ] at c0 c1 c2
  clear hb1 hR hR1 hX hY hO HB
  go_wp2_with fail
  refine bodyPost_ret (v := .agg #[.int .i64 v1, .int .i64 v2, .bool v3]) ?_ rfl ⟨rfl, ?_⟩
  · simp [results, Tryd.results29, go_sem, *]
  · have := HB1.out.size
    repeat (first | with_reducible exact HB1.out | with_reducible refine Below.setCell ?_ ?_ _ | with_reducible refine Below.alloc ?_ ?_ _ | omega | (simp; omega) | simp)
theorem neg_over {a b : Int} (ha : I64 a) (hb : I64 b) (hle : a ≤ b) : overS [0 - b, 0 - a] noS' = if a = minI then allS else ofS (-b) (-a) := by
  unfold I64 at ha hb
  have hn : ∀ n : Int, 0 - n = -n := fun n => by omega
  rw [hn, hn]
  by_cases h : a = minI
  · rw [if_pos h]
    by_cases hb' : i64B (-b) = true
    · have ha' : i64B (-a) = false := by rw [h]; decide
      simp [overS, hb', ha']
    · simp [overS, hb']
  · rw [if_neg h]
    have ha' : i64B (-a) = true := by rw [i64B_iff]; unfold minI at h; omega
    have hb' : i64B (-b) = true := by rw [i64B_iff]; unfold minI at h; omega
    simp only [overS, ha', hb', if_true]
    rw [joinS_left (a := noS') rfl, joinS_has rfl rfl]
    unfold ofS
    simp only [Spn.mk.injEq, and_true]
    omega
theorem rMakes_any (op : Int) (x y : Spn) (w : World) (hop : 1 ≤ op ∧ op ≤ 22) (hx : SpOk x) (hy : SpOk y) :
    Calls Tryd.prog 29 #[.int .i64 op, .agg #[.int .i64 x.lo, .int .i64 x.hi, .bool x.has], .agg #[.int .i64 y.lo, .int .i64 y.hi, .bool y.has]] w fun e w' => e = .returned (.agg #[.int .i64 (makS op x y).lo, .int .i64 (makS op x y).hi, .bool (makS op x y).has]) ∧ Below w.heap.size w w' := by
  have xlo := hx.lo
  have xhi := hx.hi
  have ylo := hy.lo
  have yhi := hy.hi
  have xle := hx.le
  have Hx := hidI hx
  have Hy := hidI hy
  clear hx hy
  obtain ⟨a, b, s⟩ := x
  obtain ⟨c, d, s2⟩ := y
  simp only at xlo xhi ylo yhi xle
  by_cases h17 : 17 < op
  · rw [show makS op ⟨a, b, s⟩ ⟨c, d, s2⟩ = allS from by unfold makS; rw [if_pos h17]]
    exact rm_rest op a b c d s s2 ⟨h17, hop.2⟩ w
  · cases s with
    | false =>
      rw [show makS op ⟨a, b, false⟩ ⟨c, d, s2⟩ = noS' from by unfold makS; rw [if_neg h17, if_pos (.inl rfl)]]
      exact rm_no1 op a b c d s2 ⟨hop.1, by omega⟩ w
    | true =>
      by_cases h2 : (2 ≤ op ∧ op ≤ 15) ∧ s2 = false
      · obtain ⟨h2, rfl⟩ := h2
        rw [show makS op ⟨a, b, true⟩ ⟨c, d, false⟩ = noS' from by unfold makS; rw [if_neg h17, if_pos (.inr ⟨h2, rfl⟩)]]
        exact rm_no2 op a b c d h2 w
      · have hm : makS op ⟨a, b, true⟩ ⟨c, d, s2⟩ = if op = 1 then ⟨a, b, true⟩
            else if op = 2 then overS [a + c, b + d] noS'
            else if op = 3 then overS [a - d, b - c] noS'
            else if op = 4 then overS [a * c, a * d, b * c, b * d] noS'
            else if op = 5 ∨ op = 6 then divS op ⟨a, b, true⟩ ⟨c, d, s2⟩
            else if op = 7 ∨ op = 8 ∨ op = 9 then logS op ⟨a, b, true⟩ ⟨c, d, s2⟩
            else if op = 10 ∨ op = 11 then shfS op ⟨a, b, true⟩ ⟨c, d, s2⟩
            else if op = 16 then (if a = minI then allS else ofS (-b) (-a))
            else if op = 17 then ofS (-1 - b) (-1 - a)
            else tstS op ⟨a, b, true⟩ ⟨c, d, s2⟩ := by
          unfold makS
          rw [if_neg h17, if_neg (fun h => by rcases h with h | h; cases h; exact h2 h)]
        rw [hm]
        clear hm
        have hops : op = 1 ∨ op = 16 ∨ op = 17 ∨ (2 ≤ op ∧ op ≤ 15) := by omega
        rcases hops with rfl | rfl | rfl | ho
        · exact rm_1 a b c d s2 w
        · rw [show ((if (16 : Int) = 1 then (⟨a, b, true⟩ : Spn) else _) = _) from if_neg (by decide), if_neg (by decide), if_neg (by decide), if_neg (by decide), if_neg (by decide), if_neg (by decide), if_neg (by decide), if_pos rfl, ← neg_over xlo xhi (xle rfl)]
          exact rm_16 a b c d s2 xlo xhi w
        · exact rm_17 a b c d s2 xlo xhi w
        · have hs2 : s2 = true := by
            cases s2
            · exact absurd ⟨ho, rfl⟩ h2
            · rfl
          subst hs2
          clear h2 h17 hop
          have hops : op = 2 ∨ op = 3 ∨ op = 4 ∨ op = 5 ∨ op = 6 ∨ op = 7 ∨ op = 8 ∨ op = 9 ∨ op = 10 ∨ op = 11 ∨ op = 12 ∨ op = 13 ∨ op = 14 ∨ op = 15 := by omega
          rcases hops with rfl | rfl | rfl | rfl | rfl | rfl | rfl | rfl | rfl | rfl | rfl | rfl | rfl | rfl
          · exact rm_2 a b c d xlo xhi ylo yhi w
          · exact rm_3 a b c d xlo xhi ylo yhi w
          · exact rm_4 a b c d xlo xhi ylo yhi w
          · by_cases h1 : c < 1
            · have e : divS 5 ⟨a, b, true⟩ ⟨c, d, true⟩ = allS := by unfold divS; rw [if_pos h1]
              exact e ▸ rm_5a a b c d h1 w
            · by_cases h2 : c = d
              · subst h2
                have e : divS 5 ⟨a, b, true⟩ ⟨c, c, true⟩ = ofS (a.tdiv c) (b.tdiv c) := by unfold divS; rw [if_neg h1, if_pos ⟨rfl, rfl⟩]
                exact e ▸ rm_5b a b c h1 xlo xhi ylo w
              · have e : divS 5 ⟨a, b, true⟩ ⟨c, d, true⟩ = ofS (min a 0) (max b 0) := by unfold divS; rw [if_neg h1, if_neg (fun g => h2 g.2), if_pos rfl]
                exact e ▸ rm_5c a b c d h1 h2 w
          · by_cases h1 : c < 1
            · have e : divS 6 ⟨a, b, true⟩ ⟨c, d, true⟩ = allS := by unfold divS; rw [if_pos h1]
              exact e ▸ rm_6a a b c d h1 w
            · exact rm_6b a b c d h1 Hx.out Hy.out w
          · exact rm_7 a b c d Hx.out Hy.out w
          · exact rm_8 a b c d Hx.out Hy.out w
          · exact rm_9 a b c d Hx.out Hy.out w
          · by_cases h : a = b ∧ c = d
            · obtain ⟨rfl, rfl⟩ := h
              have e : shfS 10 ⟨a, a, true⟩ ⟨c, c, true⟩ = ofS (twoL 10 a c).1 (twoL 10 a c).1 := by unfold shfS; rw [if_pos rfl, if_pos ⟨rfl, rfl⟩]
              exact e ▸ rm_10a a c xlo w
            · have e : shfS 10 ⟨a, b, true⟩ ⟨c, d, true⟩ = allS := by unfold shfS; rw [if_pos rfl, if_neg h]
              exact e ▸ rm_10b a b c d h w
          · by_cases h : c = d
            · subst h
              have e : shfS 11 ⟨a, b, true⟩ ⟨c, c, true⟩ = ofS (twoL 11 a c).1 (twoL 11 b c).1 := by unfold shfS; rw [if_neg (by decide), if_pos rfl]
              exact e ▸ rm_11a a b c xlo xhi w
            · have e : shfS 11 ⟨a, b, true⟩ ⟨c, d, true⟩ = ofS (min a 0) (max b (-1)) := by unfold shfS; rw [if_neg (by decide), if_neg h]
              exact e ▸ rm_11b a b c d h w
          · exact rm_12 a b c d w
          · exact rm_13 a b c d w
          · exact rm_14 a b c d w
          · exact rm_15 a b c d w
end Go.Proofs.YtdjamkinijhjoaaDoor
