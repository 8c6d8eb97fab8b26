/-
  The contracts of the closures in span.makes, and of span.ends.
-/
import Derived.Deep.LoopGhost
import Derived.BigQuiet
import Derived.Deep.QuietTactic
import Derived.WalkKit
import Derived.WalkSpells
import Derived.WalkLawsBesides
import Derived.Test.YtdjamkinijhjoaaDoorSpnE
namespace Go.Proofs.YtdjamkinijhjoaaDoor
open Go.RowKit Go.Shelf

theorem sum_fits {a b : Int} (ha : I64 a) (hb : I64 b) : (decide (a < wrap64 (a + b)) == decide (0 < b)) = i64B (a + b) := by
 unfold I64 at ha hb
 have e : i64B (a + b) = decide (-9223372036854775808 ≤ a + b ∧ a + b ≤ 9223372036854775807) := rfl
 rw [e, Bool.eq_iff_iff]
 simp only [beq_iff_eq, decide_eq_decide, decide_eq_true_eq]
 unfold wrap64
 omega
theorem sub_fits {a b : Int} (ha : I64 a) (hb : I64 b) : (decide (wrap64 (a - b) < a) == decide (0 < b)) = i64B (a - b) := by
 unfold I64 at ha hb
 have e : i64B (a - b) = decide (-9223372036854775808 ≤ a - b ∧ a - b ≤ 9223372036854775807) := rfl
 rw [e, Bool.eq_iff_iff]
 simp only [beq_iff_eq, decide_eq_decide, decide_eq_true_eq]
 unfold wrap64
 omega
theorem makes1_any (X Y : Nat) (a b : Int) (w : World) (ha : I64 a) (hb : I64 b) (h1 : w.cell? ⟨X, 0, none⟩ = some (.int .i64 a)) (h2 : w.cell? ⟨Y, 0, none⟩ = some (.int .i64 b)) :
  Calls Tryd.prog 88 #[.pointer (some ⟨X, 0, none⟩), .pointer (some ⟨Y, 0, none⟩)] w fun e w' => e = .returned (.tuple #[.int .i64 (wrap64 (a + b)), .bool (i64B (a + b))]) ∧ Below w.heap.size w w' := by
 have HS := hidI (sum_fits ha hb)
 clear ha hb
 go_enter Tryd.func88, Tryd.ntmps88
 go_wp2_with (go_at_call 89; refine (spanSum_any _ _ _).mono ?_; rintro e w1 ⟨rfl, rfl⟩)
 refine bodyPost_ret (v := .tuple #[.int .i64 (wrap64 (a + b)), .bool (decide (a < wrap64 (a + b)) == decide (0 < b))]) (by simp [results, Tryd.results88]) rfl ⟨by rw [HS.out], Below.refl _ _⟩
theorem makes2_any (X Y : Nat) (a b : Int) (w : World) (ha : I64 a) (hb : I64 b) (h1 : w.cell? ⟨X, 1, none⟩ = some (.int .i64 a)) (h2 : w.cell? ⟨Y, 1, none⟩ = some (.int .i64 b)) :
  Calls Tryd.prog 90 #[.pointer (some ⟨X, 0, none⟩), .pointer (some ⟨Y, 0, none⟩)] w fun e w' => e = .returned (.tuple #[.int .i64 (wrap64 (a + b)), .bool (i64B (a + b))]) ∧ Below w.heap.size w w' := by
 have HS := hidI (sum_fits ha hb)
 clear ha hb
 go_enter Tryd.func90, Tryd.ntmps90
 go_wp2_with (go_at_call 89; refine (spanSum_any _ _ _).mono ?_; rintro e w1 ⟨rfl, rfl⟩)
 refine bodyPost_ret (v := .tuple #[.int .i64 (wrap64 (a + b)), .bool (decide (a < wrap64 (a + b)) == decide (0 < b))]) (by simp [results, Tryd.results90]) rfl ⟨by rw [HS.out], Below.refl _ _⟩
theorem makes3_any (a b : Int) (w : World) :
  Calls Tryd.prog 91 #[.int .i64 a, .int .i64 b] w fun e w' => e = .returned (.func (.func 92) #[] #[.pointer (some ⟨w.heap.size, 0, none⟩), .pointer (some ⟨w.heap.size + 1, 0, none⟩)]) ∧ w' = (w.alloc (.cells #[.int .i64 a] 3)).alloc (.cells #[.int .i64 b] 3) := by
 go_enter Tryd.func91, Tryd.ntmps91
 go_wp2
 go_ret
 exact ⟨rfl, rfl⟩
theorem makes4_any (a b : Int) (w : World) :
  Calls Tryd.prog 93 #[.int .i64 a, .int .i64 b] w fun e w' => e = .returned (.func (.func 94) #[] #[.pointer (some ⟨w.heap.size, 0, none⟩), .pointer (some ⟨w.heap.size + 1, 0, none⟩)]) ∧ w' = (w.alloc (.cells #[.int .i64 a] 3)).alloc (.cells #[.int .i64 b] 3) := by
 go_enter Tryd.func93, Tryd.ntmps93
 go_wp2
 go_ret
 exact ⟨rfl, rfl⟩
set_option maxHeartbeats 1000000 in
theorem makes31_any (X Y : Nat) (a b : Int) (w : World) (ha : I64 a) (hb : I64 b) (h1 : w.cell? ⟨X, 0, none⟩ = some (.int .i64 a)) (h2 : w.cell? ⟨Y, 0, none⟩ = some (.int .i64 b)) :
  Calls Tryd.prog 92 #[.pointer (some ⟨X, 0, none⟩), .pointer (some ⟨Y, 0, none⟩)] w fun e w' => e = .returned (.tuple #[.int .i64 (wrap64 (a - b)), .bool (i64B (a - b))]) ∧ Below w.heap.size w w' := by
 have HS := hidI (sub_fits ha hb)
 have hwr : IntKind.i64.wrap (a - b) = wrap64 (a - b) := IntWalk.i64_left _
 clear ha hb
 have hX := lt_of_cell h1
 have hY := lt_of_cell h2
 go_enter Tryd.func92, Tryd.ntmps92
 go_wp2_with fail
 go_quiet (fail)
 go_wp2
 refine bodyPost_ret (v := .tuple #[.int .i64 (wrap64 (a - b)), .bool (decide (wrap64 (a - b) < a) == decide (0 < b))]) (by simp [results, Tryd.results92]) rfl ⟨by rw [HS.out], ?_⟩
 repeat (first | (with_reducible first | exact bR _ _ | exact bH ‹_› | refine bD ?_ | refine bN ?_ _ | refine bS ?_ ?_ _ | refine bA ?_ ?_ _ | refine bT hb3 ?_ ?_ | refine bT hb5 ?_ ?_ | refine bT hb4 ?_ ?_) | omega | (simp; omega) | simp)
set_option maxHeartbeats 1000000 in
theorem makes41_any (X Y : Nat) (a b : Int) (w : World) (ha : I64 a) (hb : I64 b) (h1 : w.cell? ⟨X, 0, none⟩ = some (.int .i64 a)) (h2 : w.cell? ⟨Y, 0, none⟩ = some (.int .i64 b)) :
  Calls Tryd.prog 94 #[.pointer (some ⟨X, 0, none⟩), .pointer (some ⟨Y, 0, none⟩)] w fun e w' => e = .returned (.tuple #[.int .i64 (wrap64 (a * b)), .bool (i64B (a * b))]) ∧ Below w.heap.size w w' := by
 have HA := hidI ha
 have HB := hidI hb
 clear ha hb
 go_enter Tryd.func94, Tryd.ntmps94
 go_wp2_with (go_at_call 95; refine (spanProduct_any _ _ _ HA.out HB.out).mono ?_; rintro e w1 ⟨rfl, rfl⟩)
 refine bodyPost_ret (v := .tuple #[.int .i64 (wrap64 (a * b)), .bool (i64B (a * b))]) (by simp [results, Tryd.results94]) rfl ⟨rfl, Below.refl _ _⟩
theorem spanJoin_x (l h : Int) (b : Bool) (v : Int) (w : World) :
  Calls Tryd.prog 52 #[.agg #[.int .i64 l, .int .i64 h, .bool b], .agg #[.int .i64 v, .int .i64 v, .bool true]] w fun e w' => e = .returned (.agg (spC (joinS ⟨l, h, b⟩ (ofS v v)))) ∧ Below w.heap.size w w' := spanJoin_any ⟨l, h, b⟩ (ofS v v) w
set_option maxRecDepth 100000 in
set_option maxHeartbeats 2000000 in
theorem ends_add (b : Nat) (c0 : Array Value) (v0 : Int) (c1 : Array Value) (v1 : Int) (w : World) (hA : AllW w) (hc0 : w.cell? ⟨b, 0, none⟩ = some (.func (.func 88) #[] c0)) (hf0 : ∀ W, Below w.heap.size w W → Calls Tryd.prog 88 c0 W fun e w' => e = .returned (.tuple #[.int .i64 (wrap64 v0), .bool (i64B v0)]) ∧ Below W.heap.size W w') (hc1 : w.cell? ⟨b, 1, none⟩ = some (.func (.func 90) #[] c1)) (hf1 : ∀ W, Below w.heap.size w W → Calls Tryd.prog 90 c1 W fun e w' => e = .returned (.tuple #[.int .i64 (wrap64 v1), .bool (i64B v1)]) ∧ Below W.heap.size W w') :
  Calls Tryd.prog 87 #[.slice (some ⟨b, 0, none⟩) 2 2] w fun e w' => e = .returned (.agg (spC (overS [v0, v1] noS'))) ∧ Below w.heap.size w w' := by
 have HF0 := hidI hf0
 have HC0 := hidI hc0
 have HF1 := hidI hf1
 have HC1 := hidI hc1
 have HA := hidI hA
 have hbz := lt_of_cell hc0
 clear hf0 hc0 hf1 hc1 hA
 obtain ⟨VS, hVS⟩ : ∃ VS : List Int, VS = [v0, v1] := ⟨_, rfl⟩
 have HV := hidI hVS
 rw [← hVS]
 have hl : VS.length = 2 := by rw [hVS]; rfl
 clear hVS
 go_enter Tryd.func87, Tryd.ntmps87
 go_wp2_with fail
 go_loopg [10] 2 (fun q s10 wr => ∃ (k : Nat) (s : Spn), k ≤ 2 ∧ q = 2 - k ∧ s10 = .int .i64 k ∧ overS (VS.drop k) s = overS VS noS' ∧ wr.heap[w.heap.size]? = some (.cells #[.int .i64 0, .int .i64 0, .bool false] 74 (0, 0)) ∧ wr.heap[w.heap.size + 1]? = some (.cells (spC s) 74 (0, 0)) ∧ Below w.heap.size w wr)
 case atStart => exact ⟨0, noS', by omega, rfl, rfl, rfl, heap_step (heap_here w _), heap_at (by simp), by repeat (first | (with_reducible first | exact bR _ _ | exact bH ‹_› | refine bD ?_ | refine bN ?_ _ | refine bS ?_ ?_ _ | refine bA ?_ ?_ _ | refine bT hb3 ?_ ?_ | refine bT hb5 ?_ ?_ | refine bT hb4 ?_ ?_) | omega | (simp; omega) | simp)⟩
 case round =>
  obtain ⟨k, s, hk, rfl, rfl, hs, hX, hY, hb⟩ := hrel
  have HS := hidI hs
  have HX := hidI hX
  have HY := hidI hY
  have HB := hidI hb
  have zX := ltHeap hX
  have zY := ltHeap hY
  have hAr := HA.out.below hb
  obtain ⟨g0, g1, g2⟩ := hAr
  clear hs hX hY hb
  by_cases hlt : k < 2
  ·by_cases hk0 : k = 0
   ·subst hk0
    have hcl : wr.cell? ⟨b, 0, none⟩ = some (.func (.func 88) #[] c0) := (HB.out.cell (p := ⟨b, 0, none⟩) hbz).trans HC0.out
    have hsv : overS (VS.drop 0) s = if i64B v0 = true then overS (VS.drop 1) (joinS s (ofS v0 v0)) else allS := by rw [HV.out]; rfl
    rw [HS.out] at hsv
    have HSV := hidI hsv
    have HFk := hidI (HF0.out _ HB.out)
    clear hsv hlt
    obtain ⟨v, hv⟩ : ∃ v, v = v0 := ⟨_, rfl⟩
    rw [← hv] at HSV HFk
    clear hv
    cases hf : i64B v with
    | false =>
     rw [hf] at HSV HFk
     have HE := hidI (show overS VS noS' = allS from by rw [HSV.out]; rfl)
     clear hf
     go_wp2_with fail
     refine HFk.out.mono ?_
     rintro e w4 ⟨rfl, hb4⟩
     have hX4 := (hb4.block _ zX).trans HX.out
     obtain ⟨a0, a1, a2⟩ := HA.out.below (HB.out.trans (hb4.mono HB.out.size))
     have x0 := (blk hX4).1 0
     have x1 := (blk hX4).1 1
     have x2 := (blk hX4).1 2
     have xf := (blk hX4).2
     simp only [List.getElem?_toArray, List.getElem?_cons_zero, List.getElem?_cons_succ] at x0 x1 x2
     have HB4 := hidI (HB.out.trans (hb4.mono HB.out.size))
     have z4 := ltHeap hX4
     clear hb4 hX4 g0 g1 g2
     go_wp2_with fail
     refine bodyPost_ret (v := .agg (spC allS)) ?_ rfl ⟨by rw [HE.out], ?_⟩
     ·simp [results, Tryd.results87, go_sem, spC, allS, minI, maxI, x0, x1, x2]
     ·exact ((HB4.out.setCell (by show w.heap.size ≤ w.heap.size; omega) _).setCell (by show w.heap.size ≤ w.heap.size; omega) _).setCell (by show w.heap.size ≤ w.heap.size; omega) _
    | true =>
     have hw : wrap64 v = v := by
      have h3 : -9223372036854775808 ≤ v ∧ v ≤ 9223372036854775807 := by
       have := hf
       unfold i64B minI maxI at this
       simpa using this
      unfold wrap64
      omega
     rw [hf, hw] at HFk
     rw [hf] at HSV
     have HE := hidI (show overS (VS.drop 1) (joinS s (ofS v v)) = overS VS noS' from by rw [HSV.out]; rfl)
     clear hf hw
     go_wp2_with fail
     refine HFk.out.mono ?_
     rintro e w4 ⟨rfl, hb4⟩
     have HX4 := hidI ((hb4.block _ zX).trans HX.out)
     have HY4 := hidI ((hb4.block _ zY).trans HY.out)
     have HB4 := hidI (HB.out.trans (hb4.mono HB.out.size))
     have HAll := hidI (show ∀ w', Below w4.heap.size w4 w' → w'.cell? ⟨w.heap.size + 1, 0, none⟩ = some (.int .i64 s.lo) ∧ w'.cell? ⟨w.heap.size + 1, 1, none⟩ = some (.int .i64 s.hi) ∧ w'.cell? ⟨w.heap.size + 1, 2, none⟩ = some (.bool s.has) from fun w' h => by
      have h2 := (h.block _ (ltHeap HY4.out)).trans HY4.out
      exact ⟨(blk h2).1 0, (blk h2).1 1, (blk h2).1 2⟩)
     clear hb4 g0 g1 g2
     go_wp2_with fail
     refine wp_region_calm (S := fun w' => Below w4.heap.size w4 w') (by kernel_rfl) 4 ?_
     refine takeZ 0 22 (.agg #[.int .i64 s.lo, .int .i64 s.hi, .bool s.has]) rfl rfl (by kernel_rfl) (by kernel_rfl) (by kernel_rfl) (by kernel_rfl) (fun _ _ _ h => h) (Or.inl ⟨by rfl, fun w' h => ?_⟩) (Below.refl _ _).drew ?_
     ·obtain ⟨h1, h2, h3⟩ := HAll.out w' h
      go_simp
     refine takeZ 1 23 (.int .i64 v) rfl rfl (by kernel_rfl) (by kernel_rfl) (by kernel_rfl) (by kernel_rfl) (fun _ _ _ h => h) (Or.inl ⟨by rfl, fun w' h => ?_⟩) (Below.refl _ _).drew ?_
     ·go_simp
     refine stepZ_1 (i := 2) (by kernel_rfl) (stepZ_callTo 24 rfl rfl rfl (by go_simp) (spanJust_any v _) ?_)
     rintro e w5 ⟨rfl, hw5⟩
     have hb5 : Below w4.heap.size w4 w5 := by rw [hw5]; exact (Below.refl _ w4).drew.alloc (Nat.le_refl _) _
     clear hw5
     refine ⟨_, rfl, hb5, ?_⟩
     refine stepZ_1 (i := 3) (by kernel_rfl) (stepZ_callTo 25 rfl rfl rfl (by go_simp) (spanJoin_x s.lo s.hi s.has v w5) ?_)
     rintro e w6 ⟨rfl, hb6'⟩
     have hb6 : Below w4.heap.size w4 w6 := hb5.trans (hb6'.mono hb5.size)
     clear hb6' hb5
     refine ⟨_, rfl, hb6, ?_⟩
     obtain ⟨s2, hs2⟩ : ∃ s2, s2 = joinS s (ofS v v) := ⟨_, rfl⟩
     rw [← hs2] at HE ⊢
     clear hs2
     have hY6 := (hb6.block _ (ltHeap HY4.out)).trans HY4.out
     have hX6 := (hb6.block _ (ltHeap HX4.out)).trans HX4.out
     have y0 := (blk hY6).1 0
     have y1 := (blk hY6).1 1
     have y2 := (blk hY6).1 2
     have yf := (blk hY6).2
     have zy6 := ltHeap hY6
     simp only [spC, List.getElem?_toArray, List.getElem?_cons_zero, List.getElem?_cons_succ] at y0 y1 y2
     obtain ⟨W5, hW5⟩ : ∃ W5, W5 = ((w6.setCell ⟨w.heap.size + 1, 0, none⟩ (.int .i64 s2.lo)).setCell ⟨w.heap.size + 1, 1, none⟩ (.int .i64 s2.hi)).setCell ⟨w.heap.size + 1, 2, none⟩ (.bool s2.has) := ⟨_, rfl⟩
     simp only [spC]
     refine stepZ_1 (i := 4) (by kernel_rfl) (stepZ_skipNo W5 rfl rfl rfl (by rw [hW5]; go_simp) (fun h => absurd rfl h) (wpAnyZ_done (by kernel_rfl) ?_ _))
     have hY7 : W5.heap[w.heap.size + 1]? = some (.cells (spC s2) 74 (0, 0)) := by
      rw [hW5, row_set (row_set (row_set hY6 0 _) 1 _) 2 _]
      rfl
     have hX7 : W5.heap[w.heap.size]? = some (.cells #[.int .i64 0, .int .i64 0, .bool false] 74 (0, 0)) := by
      rw [hW5]
      exact (Go.Deep.blk_setCell_other _ _ _ _ (by show w.heap.size ≠ w.heap.size + 1; omega)).trans ((Go.Deep.blk_setCell_other _ _ _ _ (by show w.heap.size ≠ w.heap.size + 1; omega)).trans ((Go.Deep.blk_setCell_other _ _ _ _ (by show w.heap.size ≠ w.heap.size + 1; omega)).trans hX6))
     have hb7 : Below w.heap.size w W5 := by
      rw [hW5]
      exact (((HB4.out.trans (hb6.mono HB4.out.size)).setCell (by show w.heap.size ≤ w.heap.size + 1; omega) _).setCell (by show w.heap.size ≤ w.heap.size + 1; omega) _).setCell (by show w.heap.size ≤ w.heap.size + 1; omega) _
     have HY7 := hidI hY7
     have HX7 := hidI hX7
     have HB7 := hidI hb7
     clear hW5 hb6 hY6 hX6 y0 y1 y2 yf hY7 hX7 hb7
     simp only [calm]
     go_simp
     go_wp2_with fail
     go_roundg (2 - 1)
     case measure => omega
     case rel => exact ⟨1, s2, by omega, rfl, by go_num, HE.out, HX7.out, HY7.out, HB7.out⟩
   ·by_cases hk1 : k = 1
    ·subst hk1
     have hcl : wr.cell? ⟨b, 1, none⟩ = some (.func (.func 90) #[] c1) := (HB.out.cell (p := ⟨b, 1, none⟩) hbz).trans HC1.out
     have hsv : overS (VS.drop 1) s = if i64B v1 = true then overS (VS.drop 2) (joinS s (ofS v1 v1)) else allS := by rw [HV.out]; rfl
     rw [HS.out] at hsv
     have HSV := hidI hsv
     have HFk := hidI (HF1.out _ HB.out)
     clear hsv hlt
     obtain ⟨v, hv⟩ : ∃ v, v = v1 := ⟨_, rfl⟩
     rw [← hv] at HSV HFk
     clear hv
     cases hf : i64B v with
     | false =>
      rw [hf] at HSV HFk
      have HE := hidI (show overS VS noS' = allS from by rw [HSV.out]; rfl)
      clear hf
      go_wp2_with fail
      refine HFk.out.mono ?_
      rintro e w4 ⟨rfl, hb4⟩
      have hX4 := (hb4.block _ zX).trans HX.out
      obtain ⟨a0, a1, a2⟩ := HA.out.below (HB.out.trans (hb4.mono HB.out.size))
      have x0 := (blk hX4).1 0
      have x1 := (blk hX4).1 1
      have x2 := (blk hX4).1 2
      have xf := (blk hX4).2
      simp only [List.getElem?_toArray, List.getElem?_cons_zero, List.getElem?_cons_succ] at x0 x1 x2
      have HB4 := hidI (HB.out.trans (hb4.mono HB.out.size))
      have z4 := ltHeap hX4
      clear hb4 hX4 g0 g1 g2
      go_wp2_with fail
      refine bodyPost_ret (v := .agg (spC allS)) ?_ rfl ⟨by rw [HE.out], ?_⟩
      ·simp [results, Tryd.results87, go_sem, spC, allS, minI, maxI, x0, x1, x2]
      ·exact ((HB4.out.setCell (by show w.heap.size ≤ w.heap.size; omega) _).setCell (by show w.heap.size ≤ w.heap.size; omega) _).setCell (by show w.heap.size ≤ w.heap.size; omega) _
     | true =>
      have hw : wrap64 v = v := by
       have h3 : -9223372036854775808 ≤ v ∧ v ≤ 9223372036854775807 := by
        have := hf
        unfold i64B minI maxI at this
        simpa using this
       unfold wrap64
       omega
      rw [hf, hw] at HFk
      rw [hf] at HSV
      have HE := hidI (show overS (VS.drop 2) (joinS s (ofS v v)) = overS VS noS' from by rw [HSV.out]; rfl)
      clear hf hw
      go_wp2_with fail
      refine HFk.out.mono ?_
      rintro e w4 ⟨rfl, hb4⟩
      have HX4 := hidI ((hb4.block _ zX).trans HX.out)
      have HY4 := hidI ((hb4.block _ zY).trans HY.out)
      have HB4 := hidI (HB.out.trans (hb4.mono HB.out.size))
      have HAll := hidI (show ∀ w', Below w4.heap.size w4 w' → w'.cell? ⟨w.heap.size + 1, 0, none⟩ = some (.int .i64 s.lo) ∧ w'.cell? ⟨w.heap.size + 1, 1, none⟩ = some (.int .i64 s.hi) ∧ w'.cell? ⟨w.heap.size + 1, 2, none⟩ = some (.bool s.has) from fun w' h => by
       have h2 := (h.block _ (ltHeap HY4.out)).trans HY4.out
       exact ⟨(blk h2).1 0, (blk h2).1 1, (blk h2).1 2⟩)
      clear hb4 g0 g1 g2
      go_wp2_with fail
      refine wp_region_calm (S := fun w' => Below w4.heap.size w4 w') (by kernel_rfl) 4 ?_
      refine takeZ 0 22 (.agg #[.int .i64 s.lo, .int .i64 s.hi, .bool s.has]) rfl rfl (by kernel_rfl) (by kernel_rfl) (by kernel_rfl) (by kernel_rfl) (fun _ _ _ h => h) (Or.inl ⟨by rfl, fun w' h => ?_⟩) (Below.refl _ _).drew ?_
      ·obtain ⟨h1, h2, h3⟩ := HAll.out w' h
       go_simp
      refine takeZ 1 23 (.int .i64 v) rfl rfl (by kernel_rfl) (by kernel_rfl) (by kernel_rfl) (by kernel_rfl) (fun _ _ _ h => h) (Or.inl ⟨by rfl, fun w' h => ?_⟩) (Below.refl _ _).drew ?_
      ·go_simp
      refine stepZ_1 (i := 2) (by kernel_rfl) (stepZ_callTo 24 rfl rfl rfl (by go_simp) (spanJust_any v _) ?_)
      rintro e w5 ⟨rfl, hw5⟩
      have hb5 : Below w4.heap.size w4 w5 := by rw [hw5]; exact (Below.refl _ w4).drew.alloc (Nat.le_refl _) _
      clear hw5
      refine ⟨_, rfl, hb5, ?_⟩
      refine stepZ_1 (i := 3) (by kernel_rfl) (stepZ_callTo 25 rfl rfl rfl (by go_simp) (spanJoin_x s.lo s.hi s.has v w5) ?_)
      rintro e w6 ⟨rfl, hb6'⟩
      have hb6 : Below w4.heap.size w4 w6 := hb5.trans (hb6'.mono hb5.size)
      clear hb6' hb5
      refine ⟨_, rfl, hb6, ?_⟩
      obtain ⟨s2, hs2⟩ : ∃ s2, s2 = joinS s (ofS v v) := ⟨_, rfl⟩
      rw [← hs2] at HE ⊢
      clear hs2
      have hY6 := (hb6.block _ (ltHeap HY4.out)).trans HY4.out
      have hX6 := (hb6.block _ (ltHeap HX4.out)).trans HX4.out
      have y0 := (blk hY6).1 0
      have y1 := (blk hY6).1 1
      have y2 := (blk hY6).1 2
      have yf := (blk hY6).2
      have zy6 := ltHeap hY6
      simp only [spC, List.getElem?_toArray, List.getElem?_cons_zero, List.getElem?_cons_succ] at y0 y1 y2
      obtain ⟨W5, hW5⟩ : ∃ W5, W5 = ((w6.setCell ⟨w.heap.size + 1, 0, none⟩ (.int .i64 s2.lo)).setCell ⟨w.heap.size + 1, 1, none⟩ (.int .i64 s2.hi)).setCell ⟨w.heap.size + 1, 2, none⟩ (.bool s2.has) := ⟨_, rfl⟩
      simp only [spC]
      refine stepZ_1 (i := 4) (by kernel_rfl) (stepZ_skipNo W5 rfl rfl rfl (by rw [hW5]; go_simp) (fun h => absurd rfl h) (wpAnyZ_done (by kernel_rfl) ?_ _))
      have hY7 : W5.heap[w.heap.size + 1]? = some (.cells (spC s2) 74 (0, 0)) := by
       rw [hW5, row_set (row_set (row_set hY6 0 _) 1 _) 2 _]
       rfl
      have hX7 : W5.heap[w.heap.size]? = some (.cells #[.int .i64 0, .int .i64 0, .bool false] 74 (0, 0)) := by
       rw [hW5]
       exact (Go.Deep.blk_setCell_other _ _ _ _ (by show w.heap.size ≠ w.heap.size + 1; omega)).trans ((Go.Deep.blk_setCell_other _ _ _ _ (by show w.heap.size ≠ w.heap.size + 1; omega)).trans ((Go.Deep.blk_setCell_other _ _ _ _ (by show w.heap.size ≠ w.heap.size + 1; omega)).trans hX6))
      have hb7 : Below w.heap.size w W5 := by
       rw [hW5]
       exact (((HB4.out.trans (hb6.mono HB4.out.size)).setCell (by show w.heap.size ≤ w.heap.size + 1; omega) _).setCell (by show w.heap.size ≤ w.heap.size + 1; omega) _).setCell (by show w.heap.size ≤ w.heap.size + 1; omega) _
      have HY7 := hidI hY7
      have HX7 := hidI hX7
      have HB7 := hidI hb7
      clear hW5 hb6 hY6 hX6 y0 y1 y2 yf hY7 hX7 hb7
      simp only [calm]
      go_simp
      go_wp2_with fail
      go_roundg (2 - 2)
      case measure => omega
      case rel => exact ⟨2, s2, by omega, rfl, by go_num, HE.out, HX7.out, HY7.out, HB7.out⟩
    ·exfalso; omega
  ·obtain rfl : k = 2 := by omega
   rw [List.drop_of_length_le (by omega)] at HS
   have he : s = overS VS noS' := HS.out
   have y0 := (blk HY.out).1 0
   have y1 := (blk HY.out).1 1
   have y2 := (blk HY.out).1 2
   have x0 := (blk HX.out).1 0
   have x1 := (blk HX.out).1 1
   have x2 := (blk HX.out).1 2
   have xf := (blk HX.out).2
   simp only [spC, List.getElem?_toArray, List.getElem?_cons_zero, List.getElem?_cons_succ] at y0 y1 y2 x0 x1 x2
   have HE := hidI he
   clear he
   go_wp2_with fail
   refine bodyPost_ret (v := .agg (spC s)) ?_ rfl ⟨by rw [HE.out], ?_⟩
   ·simp [results, Tryd.results87, go_sem, spC, x0, x1, x2]
   ·exact ((HB.out.setCell (by show w.heap.size ≤ w.heap.size; omega) _).setCell (by show w.heap.size ≤ w.heap.size; omega) _).setCell (by show w.heap.size ≤ w.heap.size; omega) _
set_option maxRecDepth 100000 in
set_option maxHeartbeats 2000000 in
theorem ends_sub (b : Nat) (c0 : Array Value) (v0 : Int) (c1 : Array Value) (v1 : Int) (w : World) (hA : AllW w) (hc0 : w.cell? ⟨b, 0, none⟩ = some (.func (.func 92) #[] c0)) (hf0 : ∀ W, Below w.heap.size w W → Calls Tryd.prog 92 c0 W fun e w' => e = .returned (.tuple #[.int .i64 (wrap64 v0), .bool (i64B v0)]) ∧ Below W.heap.size W w') (hc1 : w.cell? ⟨b, 1, none⟩ = some (.func (.func 92) #[] c1)) (hf1 : ∀ W, Below w.heap.size w W → Calls Tryd.prog 92 c1 W fun e w' => e = .returned (.tuple #[.int .i64 (wrap64 v1), .bool (i64B v1)]) ∧ Below W.heap.size W w') :
  Calls Tryd.prog 87 #[.slice (some ⟨b, 0, none⟩) 2 2] w fun e w' => e = .returned (.agg (spC (overS [v0, v1] noS'))) ∧ Below w.heap.size w w' := by
 have HF0 := hidI hf0
 have HC0 := hidI hc0
 have HF1 := hidI hf1
 have HC1 := hidI hc1
 have HA := hidI hA
 have hbz := lt_of_cell hc0
 clear hf0 hc0 hf1 hc1 hA
 obtain ⟨VS, hVS⟩ : ∃ VS : List Int, VS = [v0, v1] := ⟨_, rfl⟩
 have HV := hidI hVS
 rw [← hVS]
 have hl : VS.length = 2 := by rw [hVS]; rfl
 clear hVS
 go_enter Tryd.func87, Tryd.ntmps87
 go_wp2_with fail
 go_loopg [10] 2 (fun q s10 wr => ∃ (k : Nat) (s : Spn), k ≤ 2 ∧ q = 2 - k ∧ s10 = .int .i64 k ∧ overS (VS.drop k) s = overS VS noS' ∧ wr.heap[w.heap.size]? = some (.cells #[.int .i64 0, .int .i64 0, .bool false] 74 (0, 0)) ∧ wr.heap[w.heap.size + 1]? = some (.cells (spC s) 74 (0, 0)) ∧ Below w.heap.size w wr)
 case atStart => exact ⟨0, noS', by omega, rfl, rfl, rfl, heap_step (heap_here w _), heap_at (by simp), by repeat (first | (with_reducible first | exact bR _ _ | exact bH ‹_› | refine bD ?_ | refine bN ?_ _ | refine bS ?_ ?_ _ | refine bA ?_ ?_ _ | refine bT hb3 ?_ ?_ | refine bT hb5 ?_ ?_ | refine bT hb4 ?_ ?_) | omega | (simp; omega) | simp)⟩
 case round =>
  obtain ⟨k, s, hk, rfl, rfl, hs, hX, hY, hb⟩ := hrel
  have HS := hidI hs
  have HX := hidI hX
  have HY := hidI hY
  have HB := hidI hb
  have zX := ltHeap hX
  have zY := ltHeap hY
  have hAr := HA.out.below hb
  obtain ⟨g0, g1, g2⟩ := hAr
  clear hs hX hY hb
  by_cases hlt : k < 2
  ·by_cases hk0 : k = 0
   ·subst hk0
    have hcl : wr.cell? ⟨b, 0, none⟩ = some (.func (.func 92) #[] c0) := (HB.out.cell (p := ⟨b, 0, none⟩) hbz).trans HC0.out
    have hsv : overS (VS.drop 0) s = if i64B v0 = true then overS (VS.drop 1) (joinS s (ofS v0 v0)) else allS := by rw [HV.out]; rfl
    rw [HS.out] at hsv
    have HSV := hidI hsv
    have HFk := hidI (HF0.out _ HB.out)
    clear hsv hlt
    obtain ⟨v, hv⟩ : ∃ v, v = v0 := ⟨_, rfl⟩
    rw [← hv] at HSV HFk
    clear hv
    cases hf : i64B v with
    | false =>
     rw [hf] at HSV HFk
     have HE := hidI (show overS VS noS' = allS from by rw [HSV.out]; rfl)
     clear hf
     go_wp2_with fail
     refine HFk.out.mono ?_
     rintro e w4 ⟨rfl, hb4⟩
     have hX4 := (hb4.block _ zX).trans HX.out
     obtain ⟨a0, a1, a2⟩ := HA.out.below (HB.out.trans (hb4.mono HB.out.size))
     have x0 := (blk hX4).1 0
     have x1 := (blk hX4).1 1
     have x2 := (blk hX4).1 2
     have xf := (blk hX4).2
     simp only [List.getElem?_toArray, List.getElem?_cons_zero, List.getElem?_cons_succ] at x0 x1 x2
     have HB4 := hidI (HB.out.trans (hb4.mono HB.out.size))
     have z4 := ltHeap hX4
     clear hb4 hX4 g0 g1 g2
     go_wp2_with fail
     refine bodyPost_ret (v := .agg (spC allS)) ?_ rfl ⟨by rw [HE.out], ?_⟩
     ·simp [results, Tryd.results87, go_sem, spC, allS, minI, maxI, x0, x1, x2]
     ·exact ((HB4.out.setCell (by show w.heap.size ≤ w.heap.size; omega) _).setCell (by show w.heap.size ≤ w.heap.size; omega) _).setCell (by show w.heap.size ≤ w.heap.size; omega) _
    | true =>
     have hw : wrap64 v = v := by
      have h3 : -9223372036854775808 ≤ v ∧ v ≤ 9223372036854775807 := by
       have := hf
       unfold i64B minI maxI at this
       simpa using this
      unfold wrap64
      omega
     rw [hf, hw] at HFk
     rw [hf] at HSV
     have HE := hidI (show overS (VS.drop 1) (joinS s (ofS v v)) = overS VS noS' from by rw [HSV.out]; rfl)
     clear hf hw
     go_wp2_with fail
     refine HFk.out.mono ?_
     rintro e w4 ⟨rfl, hb4⟩
     have HX4 := hidI ((hb4.block _ zX).trans HX.out)
     have HY4 := hidI ((hb4.block _ zY).trans HY.out)
     have HB4 := hidI (HB.out.trans (hb4.mono HB.out.size))
     have HAll := hidI (show ∀ w', Below w4.heap.size w4 w' → w'.cell? ⟨w.heap.size + 1, 0, none⟩ = some (.int .i64 s.lo) ∧ w'.cell? ⟨w.heap.size + 1, 1, none⟩ = some (.int .i64 s.hi) ∧ w'.cell? ⟨w.heap.size + 1, 2, none⟩ = some (.bool s.has) from fun w' h => by
      have h2 := (h.block _ (ltHeap HY4.out)).trans HY4.out
      exact ⟨(blk h2).1 0, (blk h2).1 1, (blk h2).1 2⟩)
     clear hb4 g0 g1 g2
     go_wp2_with fail
     refine wp_region_calm (S := fun w' => Below w4.heap.size w4 w') (by kernel_rfl) 4 ?_
     refine takeZ 0 22 (.agg #[.int .i64 s.lo, .int .i64 s.hi, .bool s.has]) rfl rfl (by kernel_rfl) (by kernel_rfl) (by kernel_rfl) (by kernel_rfl) (fun _ _ _ h => h) (Or.inl ⟨by rfl, fun w' h => ?_⟩) (Below.refl _ _).drew ?_
     ·obtain ⟨h1, h2, h3⟩ := HAll.out w' h
      go_simp
     refine takeZ 1 23 (.int .i64 v) rfl rfl (by kernel_rfl) (by kernel_rfl) (by kernel_rfl) (by kernel_rfl) (fun _ _ _ h => h) (Or.inl ⟨by rfl, fun w' h => ?_⟩) (Below.refl _ _).drew ?_
     ·go_simp
     refine stepZ_1 (i := 2) (by kernel_rfl) (stepZ_callTo 24 rfl rfl rfl (by go_simp) (spanJust_any v _) ?_)
     rintro e w5 ⟨rfl, hw5⟩
     have hb5 : Below w4.heap.size w4 w5 := by rw [hw5]; exact (Below.refl _ w4).drew.alloc (Nat.le_refl _) _
     clear hw5
     refine ⟨_, rfl, hb5, ?_⟩
     refine stepZ_1 (i := 3) (by kernel_rfl) (stepZ_callTo 25 rfl rfl rfl (by go_simp) (spanJoin_x s.lo s.hi s.has v w5) ?_)
     rintro e w6 ⟨rfl, hb6'⟩
     have hb6 : Below w4.heap.size w4 w6 := hb5.trans (hb6'.mono hb5.size)
     clear hb6' hb5
     refine ⟨_, rfl, hb6, ?_⟩
     obtain ⟨s2, hs2⟩ : ∃ s2, s2 = joinS s (ofS v v) := ⟨_, rfl⟩
     rw [← hs2] at HE ⊢
     clear hs2
     have hY6 := (hb6.block _ (ltHeap HY4.out)).trans HY4.out
     have hX6 := (hb6.block _ (ltHeap HX4.out)).trans HX4.out
     have y0 := (blk hY6).1 0
     have y1 := (blk hY6).1 1
     have y2 := (blk hY6).1 2
     have yf := (blk hY6).2
     have zy6 := ltHeap hY6
     simp only [spC, List.getElem?_toArray, List.getElem?_cons_zero, List.getElem?_cons_succ] at y0 y1 y2
     obtain ⟨W5, hW5⟩ : ∃ W5, W5 = ((w6.setCell ⟨w.heap.size + 1, 0, none⟩ (.int .i64 s2.lo)).setCell ⟨w.heap.size + 1, 1, none⟩ (.int .i64 s2.hi)).setCell ⟨w.heap.size + 1, 2, none⟩ (.bool s2.has) := ⟨_, rfl⟩
     simp only [spC]
     refine stepZ_1 (i := 4) (by kernel_rfl) (stepZ_skipNo W5 rfl rfl rfl (by rw [hW5]; go_simp) (fun h => absurd rfl h) (wpAnyZ_done (by kernel_rfl) ?_ _))
     have hY7 : W5.heap[w.heap.size + 1]? = some (.cells (spC s2) 74 (0, 0)) := by
      rw [hW5, row_set (row_set (row_set hY6 0 _) 1 _) 2 _]
      rfl
     have hX7 : W5.heap[w.heap.size]? = some (.cells #[.int .i64 0, .int .i64 0, .bool false] 74 (0, 0)) := by
      rw [hW5]
      exact (Go.Deep.blk_setCell_other _ _ _ _ (by show w.heap.size ≠ w.heap.size + 1; omega)).trans ((Go.Deep.blk_setCell_other _ _ _ _ (by show w.heap.size ≠ w.heap.size + 1; omega)).trans ((Go.Deep.blk_setCell_other _ _ _ _ (by show w.heap.size ≠ w.heap.size + 1; omega)).trans hX6))
     have hb7 : Below w.heap.size w W5 := by
      rw [hW5]
      exact (((HB4.out.trans (hb6.mono HB4.out.size)).setCell (by show w.heap.size ≤ w.heap.size + 1; omega) _).setCell (by show w.heap.size ≤ w.heap.size + 1; omega) _).setCell (by show w.heap.size ≤ w.heap.size + 1; omega) _
     have HY7 := hidI hY7
     have HX7 := hidI hX7
     have HB7 := hidI hb7
     clear hW5 hb6 hY6 hX6 y0 y1 y2 yf hY7 hX7 hb7
     simp only [calm]
     go_simp
     go_wp2_with fail
     go_roundg (2 - 1)
     case measure => omega
     case rel => exact ⟨1, s2, by omega, rfl, by go_num, HE.out, HX7.out, HY7.out, HB7.out⟩
   ·by_cases hk1 : k = 1
    ·subst hk1
     have hcl : wr.cell? ⟨b, 1, none⟩ = some (.func (.func 92) #[] c1) := (HB.out.cell (p := ⟨b, 1, none⟩) hbz).trans HC1.out
     have hsv : overS (VS.drop 1) s = if i64B v1 = true then overS (VS.drop 2) (joinS s (ofS v1 v1)) else allS := by rw [HV.out]; rfl
     rw [HS.out] at hsv
     have HSV := hidI hsv
     have HFk := hidI (HF1.out _ HB.out)
     clear hsv hlt
     obtain ⟨v, hv⟩ : ∃ v, v = v1 := ⟨_, rfl⟩
     rw [← hv] at HSV HFk
     clear hv
     cases hf : i64B v with
     | false =>
      rw [hf] at HSV HFk
      have HE := hidI (show overS VS noS' = allS from by rw [HSV.out]; rfl)
      clear hf
      go_wp2_with fail
      refine HFk.out.mono ?_
      rintro e w4 ⟨rfl, hb4⟩
      have hX4 := (hb4.block _ zX).trans HX.out
      obtain ⟨a0, a1, a2⟩ := HA.out.below (HB.out.trans (hb4.mono HB.out.size))
      have x0 := (blk hX4).1 0
      have x1 := (blk hX4).1 1
      have x2 := (blk hX4).1 2
      have xf := (blk hX4).2
      simp only [List.getElem?_toArray, List.getElem?_cons_zero, List.getElem?_cons_succ] at x0 x1 x2
      have HB4 := hidI (HB.out.trans (hb4.mono HB.out.size))
      have z4 := ltHeap hX4
      clear hb4 hX4 g0 g1 g2
      go_wp2_with fail
      refine bodyPost_ret (v := .agg (spC allS)) ?_ rfl ⟨by rw [HE.out], ?_⟩
      ·simp [results, Tryd.results87, go_sem, spC, allS, minI, maxI, x0, x1, x2]
      ·exact ((HB4.out.setCell (by show w.heap.size ≤ w.heap.size; omega) _).setCell (by show w.heap.size ≤ w.heap.size; omega) _).setCell (by show w.heap.size ≤ w.heap.size; omega) _
     | true =>
      have hw : wrap64 v = v := by
       have h3 : -9223372036854775808 ≤ v ∧ v ≤ 9223372036854775807 := by
        have := hf
        unfold i64B minI maxI at this
        simpa using this
       unfold wrap64
       omega
      rw [hf, hw] at HFk
      rw [hf] at HSV
      have HE := hidI (show overS (VS.drop 2) (joinS s (ofS v v)) = overS VS noS' from by rw [HSV.out]; rfl)
      clear hf hw
      go_wp2_with fail
      refine HFk.out.mono ?_
      rintro e w4 ⟨rfl, hb4⟩
      have HX4 := hidI ((hb4.block _ zX).trans HX.out)
      have HY4 := hidI ((hb4.block _ zY).trans HY.out)
      have HB4 := hidI (HB.out.trans (hb4.mono HB.out.size))
      have HAll := hidI (show ∀ w', Below w4.heap.size w4 w' → w'.cell? ⟨w.heap.size + 1, 0, none⟩ = some (.int .i64 s.lo) ∧ w'.cell? ⟨w.heap.size + 1, 1, none⟩ = some (.int .i64 s.hi) ∧ w'.cell? ⟨w.heap.size + 1, 2, none⟩ = some (.bool s.has) from fun w' h => by
       have h2 := (h.block _ (ltHeap HY4.out)).trans HY4.out
       exact ⟨(blk h2).1 0, (blk h2).1 1, (blk h2).1 2⟩)
      clear hb4 g0 g1 g2
      go_wp2_with fail
      refine wp_region_calm (S := fun w' => Below w4.heap.size w4 w') (by kernel_rfl) 4 ?_
      refine takeZ 0 22 (.agg #[.int .i64 s.lo, .int .i64 s.hi, .bool s.has]) rfl rfl (by kernel_rfl) (by kernel_rfl) (by kernel_rfl) (by kernel_rfl) (fun _ _ _ h => h) (Or.inl ⟨by rfl, fun w' h => ?_⟩) (Below.refl _ _).drew ?_
      ·obtain ⟨h1, h2, h3⟩ := HAll.out w' h
       go_simp
      refine takeZ 1 23 (.int .i64 v) rfl rfl (by kernel_rfl) (by kernel_rfl) (by kernel_rfl) (by kernel_rfl) (fun _ _ _ h => h) (Or.inl ⟨by rfl, fun w' h => ?_⟩) (Below.refl _ _).drew ?_
      ·go_simp
      refine stepZ_1 (i := 2) (by kernel_rfl) (stepZ_callTo 24 rfl rfl rfl (by go_simp) (spanJust_any v _) ?_)
      rintro e w5 ⟨rfl, hw5⟩
      have hb5 : Below w4.heap.size w4 w5 := by rw [hw5]; exact (Below.refl _ w4).drew.alloc (Nat.le_refl _) _
      clear hw5
      refine ⟨_, rfl, hb5, ?_⟩
      refine stepZ_1 (i := 3) (by kernel_rfl) (stepZ_callTo 25 rfl rfl rfl (by go_simp) (spanJoin_x s.lo s.hi s.has v w5) ?_)
      rintro e w6 ⟨rfl, hb6'⟩
      have hb6 : Below w4.heap.size w4 w6 := hb5.trans (hb6'.mono hb5.size)
      clear hb6' hb5
      refine ⟨_, rfl, hb6, ?_⟩
      obtain ⟨s2, hs2⟩ : ∃ s2, s2 = joinS s (ofS v v) := ⟨_, rfl⟩
      rw [← hs2] at HE ⊢
      clear hs2
      have hY6 := (hb6.block _ (ltHeap HY4.out)).trans HY4.out
      have hX6 := (hb6.block _ (ltHeap HX4.out)).trans HX4.out
      have y0 := (blk hY6).1 0
      have y1 := (blk hY6).1 1
      have y2 := (blk hY6).1 2
      have yf := (blk hY6).2
      have zy6 := ltHeap hY6
      simp only [spC, List.getElem?_toArray, List.getElem?_cons_zero, List.getElem?_cons_succ] at y0 y1 y2
      obtain ⟨W5, hW5⟩ : ∃ W5, W5 = ((w6.setCell ⟨w.heap.size + 1, 0, none⟩ (.int .i64 s2.lo)).setCell ⟨w.heap.size + 1, 1, none⟩ (.int .i64 s2.hi)).setCell ⟨w.heap.size + 1, 2, none⟩ (.bool s2.has) := ⟨_, rfl⟩
      simp only [spC]
      refine stepZ_1 (i := 4) (by kernel_rfl) (stepZ_skipNo W5 rfl rfl rfl (by rw [hW5]; go_simp) (fun h => absurd rfl h) (wpAnyZ_done (by kernel_rfl) ?_ _))
      have hY7 : W5.heap[w.heap.size + 1]? = some (.cells (spC s2) 74 (0, 0)) := by
       rw [hW5, row_set (row_set (row_set hY6 0 _) 1 _) 2 _]
       rfl
      have hX7 : W5.heap[w.heap.size]? = some (.cells #[.int .i64 0, .int .i64 0, .bool false] 74 (0, 0)) := by
       rw [hW5]
       exact (Go.Deep.blk_setCell_other _ _ _ _ (by show w.heap.size ≠ w.heap.size + 1; omega)).trans ((Go.Deep.blk_setCell_other _ _ _ _ (by show w.heap.size ≠ w.heap.size + 1; omega)).trans ((Go.Deep.blk_setCell_other _ _ _ _ (by show w.heap.size ≠ w.heap.size + 1; omega)).trans hX6))
      have hb7 : Below w.heap.size w W5 := by
       rw [hW5]
       exact (((HB4.out.trans (hb6.mono HB4.out.size)).setCell (by show w.heap.size ≤ w.heap.size + 1; omega) _).setCell (by show w.heap.size ≤ w.heap.size + 1; omega) _).setCell (by show w.heap.size ≤ w.heap.size + 1; omega) _
      have HY7 := hidI hY7
      have HX7 := hidI hX7
      have HB7 := hidI hb7
      clear hW5 hb6 hY6 hX6 y0 y1 y2 yf hY7 hX7 hb7
      simp only [calm]
      go_simp
      go_wp2_with fail
      go_roundg (2 - 2)
      case measure => omega
      case rel => exact ⟨2, s2, by omega, rfl, by go_num, HE.out, HX7.out, HY7.out, HB7.out⟩
    ·exfalso; omega
  ·obtain rfl : k = 2 := by omega
   rw [List.drop_of_length_le (by omega)] at HS
   have he : s = overS VS noS' := HS.out
   have y0 := (blk HY.out).1 0
   have y1 := (blk HY.out).1 1
   have y2 := (blk HY.out).1 2
   have x0 := (blk HX.out).1 0
   have x1 := (blk HX.out).1 1
   have x2 := (blk HX.out).1 2
   have xf := (blk HX.out).2
   simp only [spC, List.getElem?_toArray, List.getElem?_cons_zero, List.getElem?_cons_succ] at y0 y1 y2 x0 x1 x2
   have HE := hidI he
   clear he
   go_wp2_with fail
   refine bodyPost_ret (v := .agg (spC s)) ?_ rfl ⟨by rw [HE.out], ?_⟩
   ·simp [results, Tryd.results87, go_sem, spC, x0, x1, x2]
   ·exact ((HB.out.setCell (by show w.heap.size ≤ w.heap.size; omega) _).setCell (by show w.heap.size ≤ w.heap.size; omega) _).setCell (by show w.heap.size ≤ w.heap.size; omega) _
set_option maxRecDepth 100000 in
set_option maxHeartbeats 2000000 in
theorem ends_mul (b : Nat) (c0 : Array Value) (v0 : Int) (c1 : Array Value) (v1 : Int) (c2 : Array Value) (v2 : Int) (c3 : Array Value) (v3 : Int) (w : World) (hA : AllW w) (hc0 : w.cell? ⟨b, 0, none⟩ = some (.func (.func 94) #[] c0)) (hf0 : ∀ W, Below w.heap.size w W → Calls Tryd.prog 94 c0 W fun e w' => e = .returned (.tuple #[.int .i64 (wrap64 v0), .bool (i64B v0)]) ∧ Below W.heap.size W w') (hc1 : w.cell? ⟨b, 1, none⟩ = some (.func (.func 94) #[] c1)) (hf1 : ∀ W, Below w.heap.size w W → Calls Tryd.prog 94 c1 W fun e w' => e = .returned (.tuple #[.int .i64 (wrap64 v1), .bool (i64B v1)]) ∧ Below W.heap.size W w') (hc2 : w.cell? ⟨b, 2, none⟩ = some (.func (.func 94) #[] c2)) (hf2 : ∀ W, Below w.heap.size w W → Calls Tryd.prog 94 c2 W fun e w' => e = .returned (.tuple #[.int .i64 (wrap64 v2), .bool (i64B v2)]) ∧ Below W.heap.size W w') (hc3 : w.cell? ⟨b, 3, none⟩ = some (.func (.func 94) #[] c3)) (hf3 : ∀ W, Below w.heap.size w W → Calls Tryd.prog 94 c3 W fun e w' => e = .returned (.tuple #[.int .i64 (wrap64 v3), .bool (i64B v3)]) ∧ Below W.heap.size W w') :
  Calls Tryd.prog 87 #[.slice (some ⟨b, 0, none⟩) 4 4] w fun e w' => e = .returned (.agg (spC (overS [v0, v1, v2, v3] noS'))) ∧ Below w.heap.size w w' := by
 have HF0 := hidI hf0
 have HC0 := hidI hc0
 have HF1 := hidI hf1
 have HC1 := hidI hc1
 have HF2 := hidI hf2
 have HC2 := hidI hc2
 have HF3 := hidI hf3
 have HC3 := hidI hc3
 have HA := hidI hA
 have hbz := lt_of_cell hc0
 clear hf0 hc0 hf1 hc1 hf2 hc2 hf3 hc3 hA
 obtain ⟨VS, hVS⟩ : ∃ VS : List Int, VS = [v0, v1, v2, v3] := ⟨_, rfl⟩
 have HV := hidI hVS
 rw [← hVS]
 have hl : VS.length = 4 := by rw [hVS]; rfl
 clear hVS
 go_enter Tryd.func87, Tryd.ntmps87
 go_wp2_with fail
 go_loopg [10] 4 (fun q s10 wr => ∃ (k : Nat) (s : Spn), k ≤ 4 ∧ q = 4 - k ∧ s10 = .int .i64 k ∧ overS (VS.drop k) s = overS VS noS' ∧ wr.heap[w.heap.size]? = some (.cells #[.int .i64 0, .int .i64 0, .bool false] 74 (0, 0)) ∧ wr.heap[w.heap.size + 1]? = some (.cells (spC s) 74 (0, 0)) ∧ Below w.heap.size w wr)
 case atStart => exact ⟨0, noS', by omega, rfl, rfl, rfl, heap_step (heap_here w _), heap_at (by simp), by repeat (first | (with_reducible first | exact bR _ _ | exact bH ‹_› | refine bD ?_ | refine bN ?_ _ | refine bS ?_ ?_ _ | refine bA ?_ ?_ _ | refine bT hb3 ?_ ?_ | refine bT hb5 ?_ ?_ | refine bT hb4 ?_ ?_) | omega | (simp; omega) | simp)⟩
 case round =>
  obtain ⟨k, s, hk, rfl, rfl, hs, hX, hY, hb⟩ := hrel
  have HS := hidI hs
  have HX := hidI hX
  have HY := hidI hY
  have HB := hidI hb
  have zX := ltHeap hX
  have zY := ltHeap hY
  have hAr := HA.out.below hb
  obtain ⟨g0, g1, g2⟩ := hAr
  clear hs hX hY hb
  by_cases hlt : k < 4
  ·by_cases hk0 : k = 0
   ·subst hk0
    have hcl : wr.cell? ⟨b, 0, none⟩ = some (.func (.func 94) #[] c0) := (HB.out.cell (p := ⟨b, 0, none⟩) hbz).trans HC0.out
    have hsv : overS (VS.drop 0) s = if i64B v0 = true then overS (VS.drop 1) (joinS s (ofS v0 v0)) else allS := by rw [HV.out]; rfl
    rw [HS.out] at hsv
    have HSV := hidI hsv
    have HFk := hidI (HF0.out _ HB.out)
    clear hsv hlt
    obtain ⟨v, hv⟩ : ∃ v, v = v0 := ⟨_, rfl⟩
    rw [← hv] at HSV HFk
    clear hv
    cases hf : i64B v with
    | false =>
     rw [hf] at HSV HFk
     have HE := hidI (show overS VS noS' = allS from by rw [HSV.out]; rfl)
     clear hf
     go_wp2_with fail
     refine HFk.out.mono ?_
     rintro e w4 ⟨rfl, hb4⟩
     have hX4 := (hb4.block _ zX).trans HX.out
     obtain ⟨a0, a1, a2⟩ := HA.out.below (HB.out.trans (hb4.mono HB.out.size))
     have x0 := (blk hX4).1 0
     have x1 := (blk hX4).1 1
     have x2 := (blk hX4).1 2
     have xf := (blk hX4).2
     simp only [List.getElem?_toArray, List.getElem?_cons_zero, List.getElem?_cons_succ] at x0 x1 x2
     have HB4 := hidI (HB.out.trans (hb4.mono HB.out.size))
     have z4 := ltHeap hX4
     clear hb4 hX4 g0 g1 g2
     go_wp2_with fail
     refine bodyPost_ret (v := .agg (spC allS)) ?_ rfl ⟨by rw [HE.out], ?_⟩
     ·simp [results, Tryd.results87, go_sem, spC, allS, minI, maxI, x0, x1, x2]
     ·exact ((HB4.out.setCell (by show w.heap.size ≤ w.heap.size; omega) _).setCell (by show w.heap.size ≤ w.heap.size; omega) _).setCell (by show w.heap.size ≤ w.heap.size; omega) _
    | true =>
     have hw : wrap64 v = v := by
      have h3 : -9223372036854775808 ≤ v ∧ v ≤ 9223372036854775807 := by
       have := hf
       unfold i64B minI maxI at this
       simpa using this
      unfold wrap64
      omega
     rw [hf, hw] at HFk
     rw [hf] at HSV
     have HE := hidI (show overS (VS.drop 1) (joinS s (ofS v v)) = overS VS noS' from by rw [HSV.out]; rfl)
     clear hf hw
     go_wp2_with fail
     refine HFk.out.mono ?_
     rintro e w4 ⟨rfl, hb4⟩
     have HX4 := hidI ((hb4.block _ zX).trans HX.out)
     have HY4 := hidI ((hb4.block _ zY).trans HY.out)
     have HB4 := hidI (HB.out.trans (hb4.mono HB.out.size))
     have HAll := hidI (show ∀ w', Below w4.heap.size w4 w' → w'.cell? ⟨w.heap.size + 1, 0, none⟩ = some (.int .i64 s.lo) ∧ w'.cell? ⟨w.heap.size + 1, 1, none⟩ = some (.int .i64 s.hi) ∧ w'.cell? ⟨w.heap.size + 1, 2, none⟩ = some (.bool s.has) from fun w' h => by
      have h2 := (h.block _ (ltHeap HY4.out)).trans HY4.out
      exact ⟨(blk h2).1 0, (blk h2).1 1, (blk h2).1 2⟩)
     clear hb4 g0 g1 g2
     go_wp2_with fail
     refine wp_region_calm (S := fun w' => Below w4.heap.size w4 w') (by kernel_rfl) 4 ?_
     refine takeZ 0 22 (.agg #[.int .i64 s.lo, .int .i64 s.hi, .bool s.has]) rfl rfl (by kernel_rfl) (by kernel_rfl) (by kernel_rfl) (by kernel_rfl) (fun _ _ _ h => h) (Or.inl ⟨by rfl, fun w' h => ?_⟩) (Below.refl _ _).drew ?_
     ·obtain ⟨h1, h2, h3⟩ := HAll.out w' h
      go_simp
     refine takeZ 1 23 (.int .i64 v) rfl rfl (by kernel_rfl) (by kernel_rfl) (by kernel_rfl) (by kernel_rfl) (fun _ _ _ h => h) (Or.inl ⟨by rfl, fun w' h => ?_⟩) (Below.refl _ _).drew ?_
     ·go_simp
     refine stepZ_1 (i := 2) (by kernel_rfl) (stepZ_callTo 24 rfl rfl rfl (by go_simp) (spanJust_any v _) ?_)
     rintro e w5 ⟨rfl, hw5⟩
     have hb5 : Below w4.heap.size w4 w5 := by rw [hw5]; exact (Below.refl _ w4).drew.alloc (Nat.le_refl _) _
     clear hw5
     refine ⟨_, rfl, hb5, ?_⟩
     refine stepZ_1 (i := 3) (by kernel_rfl) (stepZ_callTo 25 rfl rfl rfl (by go_simp) (spanJoin_x s.lo s.hi s.has v w5) ?_)
     rintro e w6 ⟨rfl, hb6'⟩
     have hb6 : Below w4.heap.size w4 w6 := hb5.trans (hb6'.mono hb5.size)
     clear hb6' hb5
     refine ⟨_, rfl, hb6, ?_⟩
     obtain ⟨s2, hs2⟩ : ∃ s2, s2 = joinS s (ofS v v) := ⟨_, rfl⟩
     rw [← hs2] at HE ⊢
     clear hs2
     have hY6 := (hb6.block _ (ltHeap HY4.out)).trans HY4.out
     have hX6 := (hb6.block _ (ltHeap HX4.out)).trans HX4.out
     have y0 := (blk hY6).1 0
     have y1 := (blk hY6).1 1
     have y2 := (blk hY6).1 2
     have yf := (blk hY6).2
     have zy6 := ltHeap hY6
     simp only [spC, List.getElem?_toArray, List.getElem?_cons_zero, List.getElem?_cons_succ] at y0 y1 y2
     obtain ⟨W5, hW5⟩ : ∃ W5, W5 = ((w6.setCell ⟨w.heap.size + 1, 0, none⟩ (.int .i64 s2.lo)).setCell ⟨w.heap.size + 1, 1, none⟩ (.int .i64 s2.hi)).setCell ⟨w.heap.size + 1, 2, none⟩ (.bool s2.has) := ⟨_, rfl⟩
     simp only [spC]
     refine stepZ_1 (i := 4) (by kernel_rfl) (stepZ_skipNo W5 rfl rfl rfl (by rw [hW5]; go_simp) (fun h => absurd rfl h) (wpAnyZ_done (by kernel_rfl) ?_ _))
     have hY7 : W5.heap[w.heap.size + 1]? = some (.cells (spC s2) 74 (0, 0)) := by
      rw [hW5, row_set (row_set (row_set hY6 0 _) 1 _) 2 _]
      rfl
     have hX7 : W5.heap[w.heap.size]? = some (.cells #[.int .i64 0, .int .i64 0, .bool false] 74 (0, 0)) := by
      rw [hW5]
      exact (Go.Deep.blk_setCell_other _ _ _ _ (by show w.heap.size ≠ w.heap.size + 1; omega)).trans ((Go.Deep.blk_setCell_other _ _ _ _ (by show w.heap.size ≠ w.heap.size + 1; omega)).trans ((Go.Deep.blk_setCell_other _ _ _ _ (by show w.heap.size ≠ w.heap.size + 1; omega)).trans hX6))
     have hb7 : Below w.heap.size w W5 := by
      rw [hW5]
      exact (((HB4.out.trans (hb6.mono HB4.out.size)).setCell (by show w.heap.size ≤ w.heap.size + 1; omega) _).setCell (by show w.heap.size ≤ w.heap.size + 1; omega) _).setCell (by show w.heap.size ≤ w.heap.size + 1; omega) _
     have HY7 := hidI hY7
     have HX7 := hidI hX7
     have HB7 := hidI hb7
     clear hW5 hb6 hY6 hX6 y0 y1 y2 yf hY7 hX7 hb7
     simp only [calm]
     go_simp
     go_wp2_with fail
     go_roundg (4 - 1)
     case measure => omega
     case rel => exact ⟨1, s2, by omega, rfl, by go_num, HE.out, HX7.out, HY7.out, HB7.out⟩
   ·by_cases hk1 : k = 1
    ·subst hk1
     have hcl : wr.cell? ⟨b, 1, none⟩ = some (.func (.func 94) #[] c1) := (HB.out.cell (p := ⟨b, 1, none⟩) hbz).trans HC1.out
     have hsv : overS (VS.drop 1) s = if i64B v1 = true then overS (VS.drop 2) (joinS s (ofS v1 v1)) else allS := by rw [HV.out]; rfl
     rw [HS.out] at hsv
     have HSV := hidI hsv
     have HFk := hidI (HF1.out _ HB.out)
     clear hsv hlt
     obtain ⟨v, hv⟩ : ∃ v, v = v1 := ⟨_, rfl⟩
     rw [← hv] at HSV HFk
     clear hv
     cases hf : i64B v with
     | false =>
      rw [hf] at HSV HFk
      have HE := hidI (show overS VS noS' = allS from by rw [HSV.out]; rfl)
      clear hf
      go_wp2_with fail
      refine HFk.out.mono ?_
      rintro e w4 ⟨rfl, hb4⟩
      have hX4 := (hb4.block _ zX).trans HX.out
      obtain ⟨a0, a1, a2⟩ := HA.out.below (HB.out.trans (hb4.mono HB.out.size))
      have x0 := (blk hX4).1 0
      have x1 := (blk hX4).1 1
      have x2 := (blk hX4).1 2
      have xf := (blk hX4).2
      simp only [List.getElem?_toArray, List.getElem?_cons_zero, List.getElem?_cons_succ] at x0 x1 x2
      have HB4 := hidI (HB.out.trans (hb4.mono HB.out.size))
      have z4 := ltHeap hX4
      clear hb4 hX4 g0 g1 g2
      go_wp2_with fail
      refine bodyPost_ret (v := .agg (spC allS)) ?_ rfl ⟨by rw [HE.out], ?_⟩
      ·simp [results, Tryd.results87, go_sem, spC, allS, minI, maxI, x0, x1, x2]
      ·exact ((HB4.out.setCell (by show w.heap.size ≤ w.heap.size; omega) _).setCell (by show w.heap.size ≤ w.heap.size; omega) _).setCell (by show w.heap.size ≤ w.heap.size; omega) _
     | true =>
      have hw : wrap64 v = v := by
       have h3 : -9223372036854775808 ≤ v ∧ v ≤ 9223372036854775807 := by
        have := hf
        unfold i64B minI maxI at this
        simpa using this
       unfold wrap64
       omega
      rw [hf, hw] at HFk
      rw [hf] at HSV
      have HE := hidI (show overS (VS.drop 2) (joinS s (ofS v v)) = overS VS noS' from by rw [HSV.out]; rfl)
      clear hf hw
      go_wp2_with fail
      refine HFk.out.mono ?_
      rintro e w4 ⟨rfl, hb4⟩
      have HX4 := hidI ((hb4.block _ zX).trans HX.out)
      have HY4 := hidI ((hb4.block _ zY).trans HY.out)
      have HB4 := hidI (HB.out.trans (hb4.mono HB.out.size))
      have HAll := hidI (show ∀ w', Below w4.heap.size w4 w' → w'.cell? ⟨w.heap.size + 1, 0, none⟩ = some (.int .i64 s.lo) ∧ w'.cell? ⟨w.heap.size + 1, 1, none⟩ = some (.int .i64 s.hi) ∧ w'.cell? ⟨w.heap.size + 1, 2, none⟩ = some (.bool s.has) from fun w' h => by
       have h2 := (h.block _ (ltHeap HY4.out)).trans HY4.out
       exact ⟨(blk h2).1 0, (blk h2).1 1, (blk h2).1 2⟩)
      clear hb4 g0 g1 g2
      go_wp2_with fail
      refine wp_region_calm (S := fun w' => Below w4.heap.size w4 w') (by kernel_rfl) 4 ?_
      refine takeZ 0 22 (.agg #[.int .i64 s.lo, .int .i64 s.hi, .bool s.has]) rfl rfl (by kernel_rfl) (by kernel_rfl) (by kernel_rfl) (by kernel_rfl) (fun _ _ _ h => h) (Or.inl ⟨by rfl, fun w' h => ?_⟩) (Below.refl _ _).drew ?_
      ·obtain ⟨h1, h2, h3⟩ := HAll.out w' h
       go_simp
      refine takeZ 1 23 (.int .i64 v) rfl rfl (by kernel_rfl) (by kernel_rfl) (by kernel_rfl) (by kernel_rfl) (fun _ _ _ h => h) (Or.inl ⟨by rfl, fun w' h => ?_⟩) (Below.refl _ _).drew ?_
      ·go_simp
      refine stepZ_1 (i := 2) (by kernel_rfl) (stepZ_callTo 24 rfl rfl rfl (by go_simp) (spanJust_any v _) ?_)
      rintro e w5 ⟨rfl, hw5⟩
      have hb5 : Below w4.heap.size w4 w5 := by rw [hw5]; exact (Below.refl _ w4).drew.alloc (Nat.le_refl _) _
      clear hw5
      refine ⟨_, rfl, hb5, ?_⟩
      refine stepZ_1 (i := 3) (by kernel_rfl) (stepZ_callTo 25 rfl rfl rfl (by go_simp) (spanJoin_x s.lo s.hi s.has v w5) ?_)
      rintro e w6 ⟨rfl, hb6'⟩
      have hb6 : Below w4.heap.size w4 w6 := hb5.trans (hb6'.mono hb5.size)
      clear hb6' hb5
      refine ⟨_, rfl, hb6, ?_⟩
      obtain ⟨s2, hs2⟩ : ∃ s2, s2 = joinS s (ofS v v) := ⟨_, rfl⟩
      rw [← hs2] at HE ⊢
      clear hs2
      have hY6 := (hb6.block _ (ltHeap HY4.out)).trans HY4.out
      have hX6 := (hb6.block _ (ltHeap HX4.out)).trans HX4.out
      have y0 := (blk hY6).1 0
      have y1 := (blk hY6).1 1
      have y2 := (blk hY6).1 2
      have yf := (blk hY6).2
      have zy6 := ltHeap hY6
      simp only [spC, List.getElem?_toArray, List.getElem?_cons_zero, List.getElem?_cons_succ] at y0 y1 y2
      obtain ⟨W5, hW5⟩ : ∃ W5, W5 = ((w6.setCell ⟨w.heap.size + 1, 0, none⟩ (.int .i64 s2.lo)).setCell ⟨w.heap.size + 1, 1, none⟩ (.int .i64 s2.hi)).setCell ⟨w.heap.size + 1, 2, none⟩ (.bool s2.has) := ⟨_, rfl⟩
      simp only [spC]
      refine stepZ_1 (i := 4) (by kernel_rfl) (stepZ_skipNo W5 rfl rfl rfl (by rw [hW5]; go_simp) (fun h => absurd rfl h) (wpAnyZ_done (by kernel_rfl) ?_ _))
      have hY7 : W5.heap[w.heap.size + 1]? = some (.cells (spC s2) 74 (0, 0)) := by
       rw [hW5, row_set (row_set (row_set hY6 0 _) 1 _) 2 _]
       rfl
      have hX7 : W5.heap[w.heap.size]? = some (.cells #[.int .i64 0, .int .i64 0, .bool false] 74 (0, 0)) := by
       rw [hW5]
       exact (Go.Deep.blk_setCell_other _ _ _ _ (by show w.heap.size ≠ w.heap.size + 1; omega)).trans ((Go.Deep.blk_setCell_other _ _ _ _ (by show w.heap.size ≠ w.heap.size + 1; omega)).trans ((Go.Deep.blk_setCell_other _ _ _ _ (by show w.heap.size ≠ w.heap.size + 1; omega)).trans hX6))
      have hb7 : Below w.heap.size w W5 := by
       rw [hW5]
       exact (((HB4.out.trans (hb6.mono HB4.out.size)).setCell (by show w.heap.size ≤ w.heap.size + 1; omega) _).setCell (by show w.heap.size ≤ w.heap.size + 1; omega) _).setCell (by show w.heap.size ≤ w.heap.size + 1; omega) _
      have HY7 := hidI hY7
      have HX7 := hidI hX7
      have HB7 := hidI hb7
      clear hW5 hb6 hY6 hX6 y0 y1 y2 yf hY7 hX7 hb7
      simp only [calm]
      go_simp
      go_wp2_with fail
      go_roundg (4 - 2)
      case measure => omega
      case rel => exact ⟨2, s2, by omega, rfl, by go_num, HE.out, HX7.out, HY7.out, HB7.out⟩
    ·by_cases hk2 : k = 2
     ·subst hk2
      have hcl : wr.cell? ⟨b, 2, none⟩ = some (.func (.func 94) #[] c2) := (HB.out.cell (p := ⟨b, 2, none⟩) hbz).trans HC2.out
      have hsv : overS (VS.drop 2) s = if i64B v2 = true then overS (VS.drop 3) (joinS s (ofS v2 v2)) else allS := by rw [HV.out]; rfl
      rw [HS.out] at hsv
      have HSV := hidI hsv
      have HFk := hidI (HF2.out _ HB.out)
      clear hsv hlt
      obtain ⟨v, hv⟩ : ∃ v, v = v2 := ⟨_, rfl⟩
      rw [← hv] at HSV HFk
      clear hv
      cases hf : i64B v with
      | false =>
       rw [hf] at HSV HFk
       have HE := hidI (show overS VS noS' = allS from by rw [HSV.out]; rfl)
       clear hf
       go_wp2_with fail
       refine HFk.out.mono ?_
       rintro e w4 ⟨rfl, hb4⟩
       have hX4 := (hb4.block _ zX).trans HX.out
       obtain ⟨a0, a1, a2⟩ := HA.out.below (HB.out.trans (hb4.mono HB.out.size))
       have x0 := (blk hX4).1 0
       have x1 := (blk hX4).1 1
       have x2 := (blk hX4).1 2
       have xf := (blk hX4).2
       simp only [List.getElem?_toArray, List.getElem?_cons_zero, List.getElem?_cons_succ] at x0 x1 x2
       have HB4 := hidI (HB.out.trans (hb4.mono HB.out.size))
       have z4 := ltHeap hX4
       clear hb4 hX4 g0 g1 g2
       go_wp2_with fail
       refine bodyPost_ret (v := .agg (spC allS)) ?_ rfl ⟨by rw [HE.out], ?_⟩
       ·simp [results, Tryd.results87, go_sem, spC, allS, minI, maxI, x0, x1, x2]
       ·exact ((HB4.out.setCell (by show w.heap.size ≤ w.heap.size; omega) _).setCell (by show w.heap.size ≤ w.heap.size; omega) _).setCell (by show w.heap.size ≤ w.heap.size; omega) _
      | true =>
       have hw : wrap64 v = v := by
        have h3 : -9223372036854775808 ≤ v ∧ v ≤ 9223372036854775807 := by
         have := hf
         unfold i64B minI maxI at this
         simpa using this
        unfold wrap64
        omega
       rw [hf, hw] at HFk
       rw [hf] at HSV
       have HE := hidI (show overS (VS.drop 3) (joinS s (ofS v v)) = overS VS noS' from by rw [HSV.out]; rfl)
       clear hf hw
       go_wp2_with fail
       refine HFk.out.mono ?_
       rintro e w4 ⟨rfl, hb4⟩
       have HX4 := hidI ((hb4.block _ zX).trans HX.out)
       have HY4 := hidI ((hb4.block _ zY).trans HY.out)
       have HB4 := hidI (HB.out.trans (hb4.mono HB.out.size))
       have HAll := hidI (show ∀ w', Below w4.heap.size w4 w' → w'.cell? ⟨w.heap.size + 1, 0, none⟩ = some (.int .i64 s.lo) ∧ w'.cell? ⟨w.heap.size + 1, 1, none⟩ = some (.int .i64 s.hi) ∧ w'.cell? ⟨w.heap.size + 1, 2, none⟩ = some (.bool s.has) from fun w' h => by
        have h2 := (h.block _ (ltHeap HY4.out)).trans HY4.out
        exact ⟨(blk h2).1 0, (blk h2).1 1, (blk h2).1 2⟩)
       clear hb4 g0 g1 g2
       go_wp2_with fail
       refine wp_region_calm (S := fun w' => Below w4.heap.size w4 w') (by kernel_rfl) 4 ?_
       refine takeZ 0 22 (.agg #[.int .i64 s.lo, .int .i64 s.hi, .bool s.has]) rfl rfl (by kernel_rfl) (by kernel_rfl) (by kernel_rfl) (by kernel_rfl) (fun _ _ _ h => h) (Or.inl ⟨by rfl, fun w' h => ?_⟩) (Below.refl _ _).drew ?_
       ·obtain ⟨h1, h2, h3⟩ := HAll.out w' h
        go_simp
       refine takeZ 1 23 (.int .i64 v) rfl rfl (by kernel_rfl) (by kernel_rfl) (by kernel_rfl) (by kernel_rfl) (fun _ _ _ h => h) (Or.inl ⟨by rfl, fun w' h => ?_⟩) (Below.refl _ _).drew ?_
       ·go_simp
       refine stepZ_1 (i := 2) (by kernel_rfl) (stepZ_callTo 24 rfl rfl rfl (by go_simp) (spanJust_any v _) ?_)
       rintro e w5 ⟨rfl, hw5⟩
       have hb5 : Below w4.heap.size w4 w5 := by rw [hw5]; exact (Below.refl _ w4).drew.alloc (Nat.le_refl _) _
       clear hw5
       refine ⟨_, rfl, hb5, ?_⟩
       refine stepZ_1 (i := 3) (by kernel_rfl) (stepZ_callTo 25 rfl rfl rfl (by go_simp) (spanJoin_x s.lo s.hi s.has v w5) ?_)
       rintro e w6 ⟨rfl, hb6'⟩
       have hb6 : Below w4.heap.size w4 w6 := hb5.trans (hb6'.mono hb5.size)
       clear hb6' hb5
       refine ⟨_, rfl, hb6, ?_⟩
       obtain ⟨s2, hs2⟩ : ∃ s2, s2 = joinS s (ofS v v) := ⟨_, rfl⟩
       rw [← hs2] at HE ⊢
       clear hs2
       have hY6 := (hb6.block _ (ltHeap HY4.out)).trans HY4.out
       have hX6 := (hb6.block _ (ltHeap HX4.out)).trans HX4.out
       have y0 := (blk hY6).1 0
       have y1 := (blk hY6).1 1
       have y2 := (blk hY6).1 2
       have yf := (blk hY6).2
       have zy6 := ltHeap hY6
       simp only [spC, List.getElem?_toArray, List.getElem?_cons_zero, List.getElem?_cons_succ] at y0 y1 y2
       obtain ⟨W5, hW5⟩ : ∃ W5, W5 = ((w6.setCell ⟨w.heap.size + 1, 0, none⟩ (.int .i64 s2.lo)).setCell ⟨w.heap.size + 1, 1, none⟩ (.int .i64 s2.hi)).setCell ⟨w.heap.size + 1, 2, none⟩ (.bool s2.has) := ⟨_, rfl⟩
       simp only [spC]
       refine stepZ_1 (i := 4) (by kernel_rfl) (stepZ_skipNo W5 rfl rfl rfl (by rw [hW5]; go_simp) (fun h => absurd rfl h) (wpAnyZ_done (by kernel_rfl) ?_ _))
       have hY7 : W5.heap[w.heap.size + 1]? = some (.cells (spC s2) 74 (0, 0)) := by
        rw [hW5, row_set (row_set (row_set hY6 0 _) 1 _) 2 _]
        rfl
       have hX7 : W5.heap[w.heap.size]? = some (.cells #[.int .i64 0, .int .i64 0, .bool false] 74 (0, 0)) := by
        rw [hW5]
        exact (Go.Deep.blk_setCell_other _ _ _ _ (by show w.heap.size ≠ w.heap.size + 1; omega)).trans ((Go.Deep.blk_setCell_other _ _ _ _ (by show w.heap.size ≠ w.heap.size + 1; omega)).trans ((Go.Deep.blk_setCell_other _ _ _ _ (by show w.heap.size ≠ w.heap.size + 1; omega)).trans hX6))
       have hb7 : Below w.heap.size w W5 := by
        rw [hW5]
        exact (((HB4.out.trans (hb6.mono HB4.out.size)).setCell (by show w.heap.size ≤ w.heap.size + 1; omega) _).setCell (by show w.heap.size ≤ w.heap.size + 1; omega) _).setCell (by show w.heap.size ≤ w.heap.size + 1; omega) _
       have HY7 := hidI hY7
       have HX7 := hidI hX7
       have HB7 := hidI hb7
       clear hW5 hb6 hY6 hX6 y0 y1 y2 yf hY7 hX7 hb7
       simp only [calm]
       go_simp
       go_wp2_with fail
       go_roundg (4 - 3)
       case measure => omega
       case rel => exact ⟨3, s2, by omega, rfl, by go_num, HE.out, HX7.out, HY7.out, HB7.out⟩
     ·by_cases hk3 : k = 3
      ·subst hk3
       have hcl : wr.cell? ⟨b, 3, none⟩ = some (.func (.func 94) #[] c3) := (HB.out.cell (p := ⟨b, 3, none⟩) hbz).trans HC3.out
       have hsv : overS (VS.drop 3) s = if i64B v3 = true then overS (VS.drop 4) (joinS s (ofS v3 v3)) else allS := by rw [HV.out]; rfl
       rw [HS.out] at hsv
       have HSV := hidI hsv
       have HFk := hidI (HF3.out _ HB.out)
       clear hsv hlt
       obtain ⟨v, hv⟩ : ∃ v, v = v3 := ⟨_, rfl⟩
       rw [← hv] at HSV HFk
       clear hv
       cases hf : i64B v with
       | false =>
        rw [hf] at HSV HFk
        have HE := hidI (show overS VS noS' = allS from by rw [HSV.out]; rfl)
        clear hf
        go_wp2_with fail
        refine HFk.out.mono ?_
        rintro e w4 ⟨rfl, hb4⟩
        have hX4 := (hb4.block _ zX).trans HX.out
        obtain ⟨a0, a1, a2⟩ := HA.out.below (HB.out.trans (hb4.mono HB.out.size))
        have x0 := (blk hX4).1 0
        have x1 := (blk hX4).1 1
        have x2 := (blk hX4).1 2
        have xf := (blk hX4).2
        simp only [List.getElem?_toArray, List.getElem?_cons_zero, List.getElem?_cons_succ] at x0 x1 x2
        have HB4 := hidI (HB.out.trans (hb4.mono HB.out.size))
        have z4 := ltHeap hX4
        clear hb4 hX4 g0 g1 g2
        go_wp2_with fail
        refine bodyPost_ret (v := .agg (spC allS)) ?_ rfl ⟨by rw [HE.out], ?_⟩
        ·simp [results, Tryd.results87, go_sem, spC, allS, minI, maxI, x0, x1, x2]
        ·exact ((HB4.out.setCell (by show w.heap.size ≤ w.heap.size; omega) _).setCell (by show w.heap.size ≤ w.heap.size; omega) _).setCell (by show w.heap.size ≤ w.heap.size; omega) _
       | true =>
        have hw : wrap64 v = v := by
         have h3 : -9223372036854775808 ≤ v ∧ v ≤ 9223372036854775807 := by
          have := hf
          unfold i64B minI maxI at this
          simpa using this
         unfold wrap64
         omega
        rw [hf, hw] at HFk
        rw [hf] at HSV
        have HE := hidI (show overS (VS.drop 4) (joinS s (ofS v v)) = overS VS noS' from by rw [HSV.out]; rfl)
        clear hf hw
        go_wp2_with fail
        refine HFk.out.mono ?_
        rintro e w4 ⟨rfl, hb4⟩
        have HX4 := hidI ((hb4.block _ zX).trans HX.out)
        have HY4 := hidI ((hb4.block _ zY).trans HY.out)
        have HB4 := hidI (HB.out.trans (hb4.mono HB.out.size))
        have HAll := hidI (show ∀ w', Below w4.heap.size w4 w' → w'.cell? ⟨w.heap.size + 1, 0, none⟩ = some (.int .i64 s.lo) ∧ w'.cell? ⟨w.heap.size + 1, 1, none⟩ = some (.int .i64 s.hi) ∧ w'.cell? ⟨w.heap.size + 1, 2, none⟩ = some (.bool s.has) from fun w' h => by
         have h2 := (h.block _ (ltHeap HY4.out)).trans HY4.out
         exact ⟨(blk h2).1 0, (blk h2).1 1, (blk h2).1 2⟩)
        clear hb4 g0 g1 g2
        go_wp2_with fail
        refine wp_region_calm (S := fun w' => Below w4.heap.size w4 w') (by kernel_rfl) 4 ?_
        refine takeZ 0 22 (.agg #[.int .i64 s.lo, .int .i64 s.hi, .bool s.has]) rfl rfl (by kernel_rfl) (by kernel_rfl) (by kernel_rfl) (by kernel_rfl) (fun _ _ _ h => h) (Or.inl ⟨by rfl, fun w' h => ?_⟩) (Below.refl _ _).drew ?_
        ·obtain ⟨h1, h2, h3⟩ := HAll.out w' h
         go_simp
        refine takeZ 1 23 (.int .i64 v) rfl rfl (by kernel_rfl) (by kernel_rfl) (by kernel_rfl) (by kernel_rfl) (fun _ _ _ h => h) (Or.inl ⟨by rfl, fun w' h => ?_⟩) (Below.refl _ _).drew ?_
        ·go_simp
        refine stepZ_1 (i := 2) (by kernel_rfl) (stepZ_callTo 24 rfl rfl rfl (by go_simp) (spanJust_any v _) ?_)
        rintro e w5 ⟨rfl, hw5⟩
        have hb5 : Below w4.heap.size w4 w5 := by rw [hw5]; exact (Below.refl _ w4).drew.alloc (Nat.le_refl _) _
        clear hw5
        refine ⟨_, rfl, hb5, ?_⟩
        refine stepZ_1 (i := 3) (by kernel_rfl) (stepZ_callTo 25 rfl rfl rfl (by go_simp) (spanJoin_x s.lo s.hi s.has v w5) ?_)
        rintro e w6 ⟨rfl, hb6'⟩
        have hb6 : Below w4.heap.size w4 w6 := hb5.trans (hb6'.mono hb5.size)
        clear hb6' hb5
        refine ⟨_, rfl, hb6, ?_⟩
        obtain ⟨s2, hs2⟩ : ∃ s2, s2 = joinS s (ofS v v) := ⟨_, rfl⟩
        rw [← hs2] at HE ⊢
        clear hs2
        have hY6 := (hb6.block _ (ltHeap HY4.out)).trans HY4.out
        have hX6 := (hb6.block _ (ltHeap HX4.out)).trans HX4.out
        have y0 := (blk hY6).1 0
        have y1 := (blk hY6).1 1
        have y2 := (blk hY6).1 2
        have yf := (blk hY6).2
        have zy6 := ltHeap hY6
        simp only [spC, List.getElem?_toArray, List.getElem?_cons_zero, List.getElem?_cons_succ] at y0 y1 y2
        obtain ⟨W5, hW5⟩ : ∃ W5, W5 = ((w6.setCell ⟨w.heap.size + 1, 0, none⟩ (.int .i64 s2.lo)).setCell ⟨w.heap.size + 1, 1, none⟩ (.int .i64 s2.hi)).setCell ⟨w.heap.size + 1, 2, none⟩ (.bool s2.has) := ⟨_, rfl⟩
        simp only [spC]
        refine stepZ_1 (i := 4) (by kernel_rfl) (stepZ_skipNo W5 rfl rfl rfl (by rw [hW5]; go_simp) (fun h => absurd rfl h) (wpAnyZ_done (by kernel_rfl) ?_ _))
        have hY7 : W5.heap[w.heap.size + 1]? = some (.cells (spC s2) 74 (0, 0)) := by
         rw [hW5, row_set (row_set (row_set hY6 0 _) 1 _) 2 _]
         rfl
        have hX7 : W5.heap[w.heap.size]? = some (.cells #[.int .i64 0, .int .i64 0, .bool false] 74 (0, 0)) := by
         rw [hW5]
         exact (Go.Deep.blk_setCell_other _ _ _ _ (by show w.heap.size ≠ w.heap.size + 1; omega)).trans ((Go.Deep.blk_setCell_other _ _ _ _ (by show w.heap.size ≠ w.heap.size + 1; omega)).trans ((Go.Deep.blk_setCell_other _ _ _ _ (by show w.heap.size ≠ w.heap.size + 1; omega)).trans hX6))
        have hb7 : Below w.heap.size w W5 := by
         rw [hW5]
         exact (((HB4.out.trans (hb6.mono HB4.out.size)).setCell (by show w.heap.size ≤ w.heap.size + 1; omega) _).setCell (by show w.heap.size ≤ w.heap.size + 1; omega) _).setCell (by show w.heap.size ≤ w.heap.size + 1; omega) _
        have HY7 := hidI hY7
        have HX7 := hidI hX7
        have HB7 := hidI hb7
        clear hW5 hb6 hY6 hX6 y0 y1 y2 yf hY7 hX7 hb7
        simp only [calm]
        go_simp
        go_wp2_with fail
        go_roundg (4 - 4)
        case measure => omega
        case rel => exact ⟨4, s2, by omega, rfl, by go_num, HE.out, HX7.out, HY7.out, HB7.out⟩
      ·exfalso; omega
  ·obtain rfl : k = 4 := by omega
   rw [List.drop_of_length_le (by omega)] at HS
   have he : s = overS VS noS' := HS.out
   have y0 := (blk HY.out).1 0
   have y1 := (blk HY.out).1 1
   have y2 := (blk HY.out).1 2
   have x0 := (blk HX.out).1 0
   have x1 := (blk HX.out).1 1
   have x2 := (blk HX.out).1 2
   have xf := (blk HX.out).2
   simp only [spC, List.getElem?_toArray, List.getElem?_cons_zero, List.getElem?_cons_succ] at y0 y1 y2 x0 x1 x2
   have HE := hidI he
   clear he
   go_wp2_with fail
   refine bodyPost_ret (v := .agg (spC s)) ?_ rfl ⟨by rw [HE.out], ?_⟩
   ·simp [results, Tryd.results87, go_sem, spC, x0, x1, x2]
   ·exact ((HB.out.setCell (by show w.heap.size ≤ w.heap.size; omega) _).setCell (by show w.heap.size ≤ w.heap.size; omega) _).setCell (by show w.heap.size ≤ w.heap.size; omega) _
end Go.Proofs.YtdjamkinijhjoaaDoor
