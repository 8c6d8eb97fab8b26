/-
  The contracts of package span: mask, product, divided, logic, shifted, test.
  The contract of span.logic.
-/
import Derived.Shelf.Small.Bits
import Derived.IntWalk
import Derived.WalkKit
import Derived.WalkSpells
import Derived.WalkLawsBesides
import Derived.Test.YtdjamkinijhjoaaDoorJChkL
import Derived.Test.YtdjamkinijhjoaaDoorJOwnA
import Derived.Test.YtdjamkinijhjoaaDoorJSsaA
import Derived.Test.YtdjamkinijhjoaaDoorJSpnA
namespace Go.Proofs
open Go.Shelf Go.RowKit Go.Lib
def Tryd.lays125_ren : Go.Shelf.Ren := ⟨fun | 125 => 139 | 128 => 153 | 129 => 154 | n => n, fun | 3 => 3 | 4 => 4 | 5 => 5 | 9 => 9 | 46 => 162 | 51 => 188 | 53 => 191 | n => n, fun | n => n⟩
theorem Tryd.lays125 : Go.Proofs.Lays.n125 Tryd.prog Tryd.lays125_ren := {
 mixed := by kernel_rfl
 f125 := Tryd.func139.trans (congrArg some (by kernel_rfl))
 f128 := Tryd.func153.trans (congrArg some (by kernel_rfl))
 f129 := Tryd.func154.trans (congrArg some (by kernel_rfl))
 t3 := Tryd.underlying3
 a3 := Tryd.isAgg3
 z3 := Tryd.sizeOf3
 v3 := Tryd.zeroValue3
 t4 := Tryd.underlying4
 a4 := Tryd.isAgg4
 z4 := Tryd.sizeOf4
 v4 := Tryd.zeroValue4
 t5 := Tryd.underlying5
 a5 := Tryd.isAgg5
 z5 := Tryd.sizeOf5
 v5 := Tryd.zeroValue5
 t9 := Tryd.underlying9
 a9 := Tryd.isAgg9
 z9 := Tryd.sizeOf9
 v9 := Tryd.zeroValue9
 t46 := Tryd.underlying162
 a46 := Tryd.isAgg162
 z46 := Tryd.sizeOf162
 v46 := Tryd.zeroValue162
 t51 := Tryd.underlying188
 a51 := Tryd.isAgg188
 z51 := Tryd.sizeOf188
 v51 := Tryd.zeroValue188
 t53 := Tryd.underlying191
 a53 := Tryd.isAgg191
 z53 := Tryd.sizeOf191
 v53 := Tryd.zeroValue191 }
end Go.Proofs
namespace Go.Proofs.YtdjamkinijhjoaaDoor
open Go.RowKit Go.Shelf Go.Lib

theorem bitLenAux_eq : ∀ (f x : Nat), x < 2 ^ f → Lib.bitLenAux f x = if x = 0 then 0 else x.log2 + 1
 | 0, x, h => by
  have : x = 0 := by simpa using h
  subst this; rfl
 | f + 1, x, h => by
  unfold Lib.bitLenAux
  by_cases h0 : x = 0
  ·rw [if_pos h0, if_pos h0]
  ·rw [if_neg h0, if_neg h0, bitLenAux_eq f (x / 2) (by rw [Nat.pow_succ] at h; omega)]
   by_cases h1 : x / 2 = 0
   ·have : x = 1 := by omega
    subst this
    rfl
   ·rw [if_neg h1]
    have e : x.log2 = (x / 2).log2 + 1 := by
     rw [Nat.log2_def x, if_pos (by omega)]
    omega
theorem bitLen_lenB {n : Int} (h0 : 0 ≤ n) (h1 : n ≤ 18446744073709551615) : Lib.bitLen n.toNat = lenBt n := by
 unfold Lib.bitLen
 have h64 : (2 : Nat) ^ 64 = 18446744073709551616 := by decide
 rw [bitLenAux_eq 64 n.toNat (by omega)]
 unfold lenBt
 by_cases h : n = 0
 ·subst h; rfl
 ·rw [if_neg (by omega), if_neg (by omega)]
theorem bitsLen_any (x : Int) (w : World) (h0 : 0 ≤ x) (h1 : x ≤ 9223372036854775807) :
  Calls Tryd.prog 139 #[.int .u64 x] w fun e w' => e = .returned (.int .i64 (lenBt x : Nat)) ∧ w' = w := by
 rw [← bitLen_lenB h0 (by omega)]
 exact Any.bits_Len Tryd.lays125 x w h0 (by omega)
theorem lenB_le {n : Int} (h0 : 0 ≤ n) (h1 : n ≤ 9223372036854775807) : lenBt n ≤ 63 := by
 unfold lenBt
 split
 ·omega
 ·have hn : n.toNat ≠ 0 := by omega
  have := (Nat.log2_lt hn (k := 63)).2 (by omega)
  omega

theorem spanMask_any (n : Int) (w : World) (h0 : 0 ≤ n) (h1 : n ≤ 9223372036854775807) :
  Calls Tryd.prog 128 #[.int .i64 n] w fun e w' => e = .returned (.int .i64 (maskS n)) ∧ w' = w := by
 have hl := lenB_le h0 h1
 have hu : IntKind.u64.wrap n = n := by rw [IntKind.wrap_u64]; omega
 have hwr : ∀ n, IntKind.i64.wrap n = wrap64 n := IntWalk.i64_left
 have hb := bitsLen_any n w h0 h1
 have HM : Hid (wrap64 (wrap64 (1 * 2 ^ lenBt n) - 1) = maskS n) := hidI (by
  unfold maskS
  have h2 : (2 : Nat) ^ lenBt n ≤ 2 ^ 63 := Nat.pow_le_pow_right (by omega) hl
  have h3 : 0 < (2 : Nat) ^ lenBt n := Nat.pow_pos (by omega)
  have e : ((2 : Int) ^ lenBt n) = ((2 ^ lenBt n : Nat) : Int) := by simp
  rw [e]
  generalize 2 ^ lenBt n = m at *
  unfold wrap64
  omega)
 have hshl := fun k => shift_shl .i64 k 1 (lenBt n : Nat) (by omega) (by show ((lenBt n : Nat) : Int) ≤ ((64 : Nat) : Int); omega)
 have HB := hidI hb
 clear hb
 generalize lenBt n = L at *
 go_enter Tryd.func128, Tryd.ntmps128
 go_wp2_with fail
 refine HB.out.mono ?_
 rintro e w1 ⟨rfl, hw⟩
 rw [hw]
 clear hw
 go_wp2
 go_ret
 refine ⟨?_, rfl⟩
 rw [← HM.out]
 simp

set_option maxHeartbeats 2000000 in
theorem spanDiv_any (op : Int) (x y : Spn) (w : World) (hop : op = 5 ∨ op = 6) (hx : SpOk x) (hy : SpOk y) (hxh : x.has = true) (hyh : y.has = true) (hA : AllW w) :
  Calls Tryd.prog 96 #[.int .i64 op, .agg (spC x), .agg (spC y)] w fun e w' => e = .returned (.agg (spC (divS op x y))) ∧ Below w.heap.size w w' := by
 have xle := hx.le hxh
 have yle := hy.le hyh
 obtain ⟨x1, x2⟩ := hx.lo
 obtain ⟨x3, x4⟩ := hx.hi
 obtain ⟨y1, y2⟩ := hy.lo
 obtain ⟨y3, y4⟩ := hy.hi
 clear hx hy
 obtain ⟨a, b, s⟩ := x
 obtain ⟨c, d, s2⟩ := y
 simp only at hxh hyh xle yle x1 x2 x3 x4 y1 y2 y3 y4
 subst hxh hyh
 have ho : ∀ l, oneS ⟨l, l, true⟩ = true := fun l => by simp [oneS]
 obtain ⟨g0, g1, g2⟩ := hA
 have zg := lt_of_cell g0
 by_cases h1 : c < 1
 ·have HD := hidI (show divS op ⟨a, b, true⟩ ⟨c, d, true⟩ = allS from by unfold divS; rw [if_pos h1])
  simp only [spC]
  go_enter Tryd.func96, Tryd.ntmps96
  go_wp2
  refine bodyPost_ret ?_ rfl ⟨by rw [HD.out], ?_⟩
  ·simp [results, Tryd.results96, go_sem, allS, minI, maxI]
  ·repeat (first | (with_reducible first | exact bR _ _ | exact bH ‹_› | refine bD ?_ | refine bN ?_ _ | refine bS ?_ ?_ _ | refine bA ?_ ?_ _ | refine bT hb3 ?_ ?_ | refine bT hb5 ?_ ?_ | refine bT hb4 ?_ ?_) | omega | (simp; omega) | simp)
 ·clear g0 g1 g2
  rcases hop with rfl | rfl
  ·by_cases h2 : c = d
   ·subst h2
    have q1 := tdiv_bd (a := a) (b := c) (m := 9223372036854775807) (by omega) (by omega) (by omega) (by omega)
    have q2 := tdiv_bd (a := b) (b := c) (m := 9223372036854775807) (by omega) (by omega) (by omega) (by omega)
    have w1 : IntKind.i64.wrap (a.tdiv c) = a.tdiv c := by rw [IntKind.wrap_i64]; omega
    have w2 : IntKind.i64.wrap (b.tdiv c) = b.tdiv c := by rw [IntKind.wrap_i64]; omega
    have HD := hidI (show divS 5 ⟨a, b, true⟩ ⟨c, c, true⟩ = ofS (a.tdiv c) (b.tdiv c) from by unfold divS; rw [if_neg h1, if_pos ⟨rfl, rfl⟩])
    have hcn : ¬ c = 0 := by omega
    have hoc := ho c
    simp only [spC]
    go_enter Tryd.func96, Tryd.ntmps96
    go_wp2_with (go_at_call 127; refine (spanOne_any ⟨c, c, true⟩ _).mono ?_; rintro e w1 ⟨rfl, rfl⟩)
    obtain ⟨W, hW⟩ : ∃ W, W = ((((w.alloc (.cells #[.int .i64 a, .int .i64 b, .bool true] 74)).alloc (.cells #[.int .i64 c, .int .i64 c, .bool true] 74)).alloc (.cells #[.int .i64 0, .int .i64 0, .bool false] 74)).alloc (.cells (spC ⟨c, c, true⟩) 74)) := ⟨_, rfl⟩
    rw [← hW]
    have hb : Below w.heap.size w W := by rw [hW]; repeat (first | (with_reducible first | exact bR _ _ | exact bH ‹_› | refine bD ?_ | refine bN ?_ _ | refine bS ?_ ?_ _ | refine bA ?_ ?_ _ | refine bT hb3 ?_ ?_ | refine bT hb5 ?_ ?_ | refine bT hb4 ?_ ?_) | omega | (simp; omega) | simp)
    have hX : W.heap[w.heap.size]? = some (.cells #[.int .i64 a, .int .i64 b, .bool true] 74 (0, 0)) := by rw [hW]; exact heap_step (heap_step (heap_step (heap_here w _)))
    have hY : W.heap[w.heap.size + 1]? = some (.cells #[.int .i64 c, .int .i64 c, .bool true] 74 (0, 0)) := by rw [hW]; exact heap_step (heap_step (heap_at (by simp)))
    have hZ : W.heap[w.heap.size + 1 + 1]? = some (.cells #[.int .i64 0, .int .i64 0, .bool false] 74 (0, 0)) := by rw [hW]; exact heap_step (heap_at (by simp))
    have hAll : ∀ w', Below W.heap.size W w' → w'.cell? ⟨w.heap.size, 0, none⟩ = some (.int .i64 a) ∧ w'.cell? ⟨w.heap.size, 1, none⟩ = some (.int .i64 b) ∧ w'.cell? ⟨w.heap.size + 1, 0, none⟩ = some (.int .i64 c) ∧ w'.cell? ⟨w.heap.size + 1, 1, none⟩ = some (.int .i64 c) := fun w' h => by
     have h1 := (h.block _ (ltHeap hX)).trans hX
     have h2 := (h.block _ (ltHeap hY)).trans hY
     exact ⟨(blk h1).1 0, (blk h1).1 1, (blk h2).1 0, (blk h2).1 1⟩
    have HAll := hidI hAll
    have HZ := hidI hZ
    have HB := hidI hb
    clear hAll hX hY hZ hW hb
    refine wp_region_calm (S := fun w' => Below W.heap.size W w') (by kernel_rfl) 11 ?_
    refine takeZ 0 19 (.pointer (some ⟨w.heap.size, 0, none⟩)) rfl rfl (by kernel_rfl) (by kernel_rfl) (by kernel_rfl) (by kernel_rfl) (fun _ _ _ h => h) (Or.inl ⟨by rfl, fun w' h => ?_⟩) (Below.refl _ _).drew ?_
    ·obtain ⟨h1, h2, h3, h4⟩ := HAll.out w' h
     go_simp
    refine takeZ 1 20 (.int .i64 a) rfl rfl (by kernel_rfl) (by kernel_rfl) (by kernel_rfl) (by kernel_rfl) (fun _ _ _ h => h) (Or.inl ⟨by rfl, fun w' h => ?_⟩) (Below.refl _ _).drew ?_
    ·obtain ⟨h1, h2, h3, h4⟩ := HAll.out w' h
     go_simp
    refine takeZ 2 21 (.pointer (some ⟨w.heap.size + 1, 0, none⟩)) rfl rfl (by kernel_rfl) (by kernel_rfl) (by kernel_rfl) (by kernel_rfl) (fun _ _ _ h => h) (Or.inl ⟨by rfl, fun w' h => ?_⟩) (Below.refl _ _).drew ?_
    ·obtain ⟨h1, h2, h3, h4⟩ := HAll.out w' h
     go_simp
    refine takeZ 3 22 (.int .i64 c) rfl rfl (by kernel_rfl) (by kernel_rfl) (by kernel_rfl) (by kernel_rfl) (fun _ _ _ h => h) (Or.inl ⟨by rfl, fun w' h => ?_⟩) (Below.refl _ _).drew ?_
    ·obtain ⟨h1, h2, h3, h4⟩ := HAll.out w' h
     go_simp
    refine takeZ 4 23 (.int .i64 (a.tdiv c)) rfl rfl (by kernel_rfl) (by kernel_rfl) (by kernel_rfl) (by kernel_rfl) (fun _ _ _ h => h) (Or.inl ⟨by rfl, fun w' h => ?_⟩) (Below.refl _ _).drew ?_
    ·obtain ⟨h1, h2, h3, h4⟩ := HAll.out w' h
     go_simp
    refine takeZ 5 24 (.pointer (some ⟨w.heap.size, 1, none⟩)) rfl rfl (by kernel_rfl) (by kernel_rfl) (by kernel_rfl) (by kernel_rfl) (fun _ _ _ h => h) (Or.inl ⟨by rfl, fun w' h => ?_⟩) (Below.refl _ _).drew ?_
    ·obtain ⟨h1, h2, h3, h4⟩ := HAll.out w' h
     go_simp
    refine takeZ 6 25 (.int .i64 b) rfl rfl (by kernel_rfl) (by kernel_rfl) (by kernel_rfl) (by kernel_rfl) (fun _ _ _ h => h) (Or.inl ⟨by rfl, fun w' h => ?_⟩) (Below.refl _ _).drew ?_
    ·obtain ⟨h1, h2, h3, h4⟩ := HAll.out w' h
     go_simp
    refine takeZ 7 26 (.pointer (some ⟨w.heap.size + 1, 0, none⟩)) rfl rfl (by kernel_rfl) (by kernel_rfl) (by kernel_rfl) (by kernel_rfl) (fun _ _ _ h => h) (Or.inl ⟨by rfl, fun w' h => ?_⟩) (Below.refl _ _).drew ?_
    ·obtain ⟨h1, h2, h3, h4⟩ := HAll.out w' h
     go_simp
    refine takeZ 8 27 (.int .i64 c) rfl rfl (by kernel_rfl) (by kernel_rfl) (by kernel_rfl) (by kernel_rfl) (fun _ _ _ h => h) (Or.inl ⟨by rfl, fun w' h => ?_⟩) (Below.refl _ _).drew ?_
    ·obtain ⟨h1, h2, h3, h4⟩ := HAll.out w' h
     go_simp
    refine takeZ 9 28 (.int .i64 (b.tdiv c)) rfl rfl (by kernel_rfl) (by kernel_rfl) (by kernel_rfl) (by kernel_rfl) (fun _ _ _ h => h) (Or.inl ⟨by rfl, fun w' h => ?_⟩) (Below.refl _ _).drew ?_
    ·obtain ⟨h1, h2, h3, h4⟩ := HAll.out w' h
     go_simp
    refine stepZ_1 (i := 10) (by kernel_rfl) (stepZ_callTo 29 rfl rfl rfl (by go_simp) (spanFrom_any (a.tdiv c) (b.tdiv c) _) ?_)
    rintro e w4 ⟨rfl, hw4⟩
    have hb4 : Below W.heap.size W w4 := by rw [hw4]; exact (Below.refl _ W).drew.alloc (Nat.le_refl _) _
    clear hw4
    have hZ4 := (hb4.block _ (ltHeap HZ.out)).trans HZ.out
    refine ⟨_, rfl, hb4, ?_⟩
    have z4 := ltHeap hZ4
    have c0 := (blk hZ4).1 0
    have c1 := (blk hZ4).1 1
    have c2 := (blk hZ4).1 2
    have cf := (blk hZ4).2
    simp only [List.getElem?_toArray, List.getElem?_cons_zero, List.getElem?_cons_succ] at c0 c1 c2
    obtain ⟨W5, hW5⟩ : ∃ W5, W5 = ((w4.setCell ⟨w.heap.size + 1 + 1, 0, none⟩ (.int .i64 (a.tdiv c))).setCell ⟨w.heap.size + 1 + 1, 1, none⟩ (.int .i64 (b.tdiv c))).setCell ⟨w.heap.size + 1 + 1, 2, none⟩ (.bool true) := ⟨_, rfl⟩
    refine stepZ_1 (i := 11) (by kernel_rfl) (stepZ_skipNo W5 rfl rfl rfl (by rw [hW5]; go_simp) (fun h => absurd rfl h) (wpAnyZ_done (by kernel_rfl) ?_ _))
    have hZ5 : W5.heap[w.heap.size + 1 + 1]? = some (.cells #[.int .i64 (a.tdiv c), .int .i64 (b.tdiv c), .bool true] 74 (0, 0)) := by
     rw [hW5, row_set (row_set (row_set hZ4 0 _) 1 _) 2 _]
     rfl
    have hb5 : Below w.heap.size w W5 := by
     rw [hW5]
     exact (((HB.out.trans (hb4.mono HB.out.size)).setCell (by show w.heap.size ≤ w.heap.size + 1 + 1; omega) _).setCell (by show w.heap.size ≤ w.heap.size + 1 + 1; omega) _).setCell (by show w.heap.size ≤ w.heap.size + 1 + 1; omega) _
    have e0 : W5.cell? ⟨w.heap.size + 1 + 1, 0, none⟩ = some (.int .i64 (a.tdiv c)) := (blk hZ5).1 0
    have e1 : W5.cell? ⟨w.heap.size + 1 + 1, 1, none⟩ = some (.int .i64 (b.tdiv c)) := (blk hZ5).1 1
    have e2 : W5.cell? ⟨w.heap.size + 1 + 1, 2, none⟩ = some (.bool true) := (blk hZ5).1 2
    have HB5 := hidI hb5
    clear hW5 hZ5 hb5 hb4 hZ4 c0 c1 c2 cf z4
    simp only [calm, Exit.then]
    go_simp
    go_wp2_with fail
    refine bodyPost_ret (v := .agg #[.int .i64 (a.tdiv c), .int .i64 (b.tdiv c), .bool true]) ?_ rfl ⟨by rw [HD.out]; rfl, HB5.out⟩
    simp [results, Tryd.results96, go_sem, e0, e1, e2]
   ·have hoc : oneS ⟨c, d, true⟩ = false := by simp [oneS, h2]
    have HD := hidI (show divS 5 ⟨a, b, true⟩ ⟨c, d, true⟩ = ofS (min a 0) (max b 0) from by unfold divS; rw [if_neg h1, if_neg (fun g => h2 g.2), if_pos rfl])
    simp only [spC]
    go_enter Tryd.func96, Tryd.ntmps96
    go_wp2_with (first | (go_at_call 127; refine (spanOne_any ⟨c, d, true⟩ _).mono ?_; rintro e w1 ⟨rfl, rfl⟩) | (go_at_call 85; refine (spanFrom_any _ _ _).mono ?_; rintro e w1 ⟨rfl, rfl⟩))
    all_goals
     refine bodyPost_ret ?_ rfl ⟨by rw [HD.out], ?_⟩
     ·first
       | (simp [results, Tryd.results96, go_sem, spC, ofS]; done)
       | (simp [results, Tryd.results96, go_sem, spC, ofS]; omega)
     ·repeat (first | (with_reducible first | exact bR _ _ | exact bH ‹_› | refine bD ?_ | refine bN ?_ _ | refine bS ?_ ?_ _ | refine bA ?_ ?_ _ | refine bT hb3 ?_ ?_ | refine bT hb5 ?_ ?_ | refine bT hb4 ?_ ?_) | omega | (simp; omega) | simp)
  ·have w1 : IntKind.i64.wrap (d - 1) = d - 1 := by rw [IntKind.wrap_i64]; omega
   have w2 : IntKind.i64.wrap (1 - d) = 1 - d := by rw [IntKind.wrap_i64]; omega
   have HD := hidI (show divS 6 ⟨a, b, true⟩ ⟨c, d, true⟩ = if 0 ≤ a then ofS 0 (min b (d - 1)) else if b ≤ 0 then ofS (max a (1 - d)) 0 else ofS (max a (1 - d)) (min b (d - 1)) from by unfold divS; rw [if_neg h1]; simp)
   simp only [spC]
   by_cases h3 : 0 ≤ a
   ·rw [if_pos h3] at HD
    go_enter Tryd.func96, Tryd.ntmps96
    go_wp2_with (go_at_call 85; refine (spanFrom_any _ _ _).mono ?_; rintro e w1 ⟨rfl, rfl⟩)
    all_goals
     refine bodyPost_ret ?_ rfl ⟨by rw [HD.out], ?_⟩
     ·first
       | (simp [results, Tryd.results96, go_sem, ofS]; done)
       | (simp [results, Tryd.results96, go_sem, spC, ofS]; omega)
     ·repeat (first | (with_reducible first | exact bR _ _ | exact bH ‹_› | refine bD ?_ | refine bN ?_ _ | refine bS ?_ ?_ _ | refine bA ?_ ?_ _ | refine bT hb3 ?_ ?_ | refine bT hb5 ?_ ?_ | refine bT hb4 ?_ ?_) | omega | (simp; omega) | simp)
   ·rw [if_neg h3] at HD
    by_cases h4 : b ≤ 0
    ·rw [if_pos h4] at HD
     go_enter Tryd.func96, Tryd.ntmps96
     go_wp2_with (go_at_call 85; refine (spanFrom_any _ _ _).mono ?_; rintro e w1 ⟨rfl, rfl⟩)
     all_goals
      refine bodyPost_ret ?_ rfl ⟨by rw [HD.out], ?_⟩
      ·first
        | (simp [results, Tryd.results96, go_sem, ofS]; done)
        | (simp [results, Tryd.results96, go_sem, spC, ofS]; omega)
      ·repeat (first | (with_reducible first | exact bR _ _ | exact bH ‹_› | refine bD ?_ | refine bN ?_ _ | refine bS ?_ ?_ _ | refine bA ?_ ?_ _ | refine bT hb3 ?_ ?_ | refine bT hb5 ?_ ?_ | refine bT hb4 ?_ ?_) | omega | (simp; omega) | simp)
    ·rw [if_neg h4] at HD
     go_enter Tryd.func96, Tryd.ntmps96
     go_wp2_with (go_at_call 85; refine (spanFrom_any _ _ _).mono ?_; rintro e w1 ⟨rfl, rfl⟩)
     all_goals
      refine bodyPost_ret ?_ rfl ⟨by rw [HD.out], ?_⟩
      ·first
        | (simp [results, Tryd.results96, go_sem, ofS]; done)
        | (simp [results, Tryd.results96, go_sem, spC, ofS]; omega)
      ·repeat (first | (with_reducible first | exact bR _ _ | exact bH ‹_› | refine bD ?_ | refine bN ?_ _ | refine bS ?_ ?_ _ | refine bA ?_ ?_ _ | refine bT hb3 ?_ ?_ | refine bT hb5 ?_ ?_ | refine bT hb4 ?_ ?_) | omega | (simp; omega) | simp)
end Go.Proofs.YtdjamkinijhjoaaDoor
namespace Go.Proofs.YtdjamkinijhjoaaDoor
open Go.RowKit Go.Shelf Go.Lib

theorem run_max2 (a b : Int) (w : World) : (Builtin.max_ #[3, 3] 3 #[.int .i64 a, .int .i64 b]).run Tryd.prog w = .ok (.int .i64 (max a b)) w := by
 simp [go_sem]
set_option maxRecDepth 100000 in
set_option maxHeartbeats 2000000 in
theorem spanLogic_any (op : Int) (x y : Spn) (w : World) (hop : op = 7 ∨ op = 8 ∨ op = 9) (hx : SpOk x) (hy : SpOk y) (hxh : x.has = true) (hyh : y.has = true) (hA : AllW w) :
  Calls Tryd.prog 97 #[.int .i64 op, .agg (spC x), .agg (spC y)] w fun e w' => e = .returned (.agg (spC (logS op x y))) ∧ Below w.heap.size w w' := by
 have xle := hx.le hxh
 have yle := hy.le hyh
 obtain ⟨x1, x2⟩ := hx.lo
 obtain ⟨x3, x4⟩ := hx.hi
 obtain ⟨y1, y2⟩ := hy.lo
 obtain ⟨y3, y4⟩ := hy.hi
 clear hx hy
 obtain ⟨a, b, s⟩ := x
 obtain ⟨c, d, s2⟩ := y
 simp only at hxh hyh xle yle x1 x2 x3 x4 y1 y2 y3 y4
 subst hxh hyh
 obtain ⟨g0, g1, g2⟩ := hA
 have zg := lt_of_cell g0
 rcases hop with rfl | hop
 ·by_cases ha : 0 ≤ a
  ·by_cases hc : 0 ≤ c
   ·have HD := hidI (show logS 7 ⟨a, b, true⟩ ⟨c, d, true⟩ = ofS 0 (min b d) from by unfold logS; simp [ha, hc])
    simp only [spC]
    go_enter Tryd.func97, Tryd.ntmps97
    go_wp2_with (go_at_call 85; refine (spanFrom_any _ _ _).mono ?_; rintro e w1 ⟨rfl, rfl⟩)
    all_goals
     refine bodyPost_ret ?_ rfl ⟨by rw [HD.out], ?_⟩
     ·first
       | (simp [results, Tryd.results97, go_sem, ofS]; done)
       | (simp [results, Tryd.results97, go_sem, spC, ofS]; omega)
     ·repeat (first | (with_reducible first | exact bR _ _ | exact bH ‹_› | refine bD ?_ | refine bN ?_ _ | refine bS ?_ ?_ _ | refine bA ?_ ?_ _ | refine bT hb3 ?_ ?_ | refine bT hb5 ?_ ?_ | refine bT hb4 ?_ ?_) | omega | (simp; omega) | simp)
   ·have HD := hidI (show logS 7 ⟨a, b, true⟩ ⟨c, d, true⟩ = ofS 0 b from by unfold logS; simp [ha, hc])
    simp only [spC]
    go_enter Tryd.func97, Tryd.ntmps97
    go_wp2_with (go_at_call 85; refine (spanFrom_any _ _ _).mono ?_; rintro e w1 ⟨rfl, rfl⟩)
    all_goals
     refine bodyPost_ret ?_ rfl ⟨by rw [HD.out], ?_⟩
     ·first
       | (simp [results, Tryd.results97, go_sem, ofS]; done)
       | (simp [results, Tryd.results97, go_sem, spC, ofS]; omega)
     ·repeat (first | (with_reducible first | exact bR _ _ | exact bH ‹_› | refine bD ?_ | refine bN ?_ _ | refine bS ?_ ?_ _ | refine bA ?_ ?_ _ | refine bT hb3 ?_ ?_ | refine bT hb5 ?_ ?_ | refine bT hb4 ?_ ?_) | omega | (simp; omega) | simp)
  ·by_cases hc : 0 ≤ c
   ·have HD := hidI (show logS 7 ⟨a, b, true⟩ ⟨c, d, true⟩ = ofS 0 d from by unfold logS; simp [ha, hc])
    simp only [spC]
    go_enter Tryd.func97, Tryd.ntmps97
    go_wp2_with (go_at_call 85; refine (spanFrom_any _ _ _).mono ?_; rintro e w1 ⟨rfl, rfl⟩)
    all_goals
     refine bodyPost_ret ?_ rfl ⟨by rw [HD.out], ?_⟩
     ·first
       | (simp [results, Tryd.results97, go_sem, ofS]; done)
       | (simp [results, Tryd.results97, go_sem, spC, ofS]; omega)
     ·repeat (first | (with_reducible first | exact bR _ _ | exact bH ‹_› | refine bD ?_ | refine bN ?_ _ | refine bS ?_ ?_ _ | refine bA ?_ ?_ _ | refine bT hb3 ?_ ?_ | refine bT hb5 ?_ ?_ | refine bT hb4 ?_ ?_) | omega | (simp; omega) | simp)
   ·have HD := hidI (show logS 7 ⟨a, b, true⟩ ⟨c, d, true⟩ = allS from by unfold logS; simp [ha, hc])
    simp only [spC]
    go_enter Tryd.func97, Tryd.ntmps97
    go_wp2_with (go_at_call 85; refine (spanFrom_any _ _ _).mono ?_; rintro e w1 ⟨rfl, rfl⟩)
    all_goals
     refine bodyPost_ret ?_ rfl ⟨by rw [HD.out], ?_⟩
     ·first
       | (simp [results, Tryd.results97, go_sem, allS, minI, maxI]; done)
       | (simp [results, Tryd.results97, go_sem, spC, ofS]; omega)
     ·repeat (first | (with_reducible first | exact bR _ _ | exact bH ‹_› | refine bD ?_ | refine bN ?_ _ | refine bS ?_ ?_ _ | refine bA ?_ ?_ _ | refine bT hb3 ?_ ?_ | refine bT hb5 ?_ ?_ | refine bT hb4 ?_ ?_) | omega | (simp; omega) | simp)
 rcases hop with rfl | rfl
 ·by_cases hn : a < 0 ∨ c < 0
  ·have HD := hidI (show logS 8 ⟨a, b, true⟩ ⟨c, d, true⟩ = allS from by unfold logS; rw [if_neg (by decide), if_pos hn])
   simp only [spC]
   go_enter Tryd.func97, Tryd.ntmps97
   go_wp2_with fail
   all_goals
    refine bodyPost_ret ?_ rfl ⟨by rw [HD.out], ?_⟩
    ·first
      | (simp [results, Tryd.results97, go_sem, allS, minI, maxI]; done)
      | (simp [results, Tryd.results97, go_sem, spC, ofS]; omega)
    ·repeat (first | (with_reducible first | exact bR _ _ | exact bH ‹_› | refine bD ?_ | refine bN ?_ _ | refine bS ?_ ?_ _ | refine bA ?_ ?_ _ | refine bT hb3 ?_ ?_ | refine bT hb5 ?_ ?_ | refine bT hb4 ?_ ?_) | omega | (simp; omega) | simp)
  ·have HD := hidI (show logS 8 ⟨a, b, true⟩ ⟨c, d, true⟩ = ofS (max a c) (maskS (max b d)) from by unfold logS; rw [if_neg (by decide), if_neg hn, if_pos rfl])
   obtain ⟨M, hM⟩ : ∃ M, M = max b d := ⟨_, rfl⟩
   obtain ⟨N, hN⟩ : ∃ N, N = max a c := ⟨_, rfl⟩
   rw [← hM, ← hN] at HD
   have hM0 : 0 ≤ M := by omega
   have hM1 : M ≤ 9223372036854775807 := by omega
   have ha0 : ¬ a < 0 := by omega
   have hc0 : ¬ c < 0 := by omega
   have hmx1 : ∀ w, (Builtin.max_ #[3, 3] 3 #[.int .i64 a, .int .i64 c]).run Tryd.prog w = .ok (.int .i64 N) w := fun w => by rw [hN]; exact run_max2 a c w
   have hmx2 : ∀ w, (Builtin.max_ #[3, 3] 3 #[.int .i64 b, .int .i64 d]).run Tryd.prog w = .ok (.int .i64 M) w := fun w => by rw [hM]; exact run_max2 b d w
   clear hM hN g0 g1 g2 zg hn
   simp only [spC]
   go_enter Tryd.func97, Tryd.ntmps97
   go_wp2_with fail
   obtain ⟨W, hW⟩ : ∃ W, W = ((w.alloc (.cells #[.int .i64 a, .int .i64 b, .bool true] 74)).alloc (.cells #[.int .i64 c, .int .i64 d, .bool true] 74)).alloc (.cells #[.int .i64 0, .int .i64 0, .bool false] 74) := ⟨_, rfl⟩
   rw [← hW]
   have hb : Below w.heap.size w W := by rw [hW]; repeat (first | (with_reducible first | exact bR _ _ | exact bH ‹_› | refine bD ?_ | refine bN ?_ _ | refine bS ?_ ?_ _ | refine bA ?_ ?_ _ | refine bT hb3 ?_ ?_ | refine bT hb5 ?_ ?_ | refine bT hb4 ?_ ?_) | omega | (simp; omega) | simp)
   have hX : W.heap[w.heap.size]? = some (.cells #[.int .i64 a, .int .i64 b, .bool true] 74 (0, 0)) := by rw [hW]; exact heap_step (heap_step (heap_here w _))
   have hY : W.heap[w.heap.size + 1]? = some (.cells #[.int .i64 c, .int .i64 d, .bool true] 74 (0, 0)) := by rw [hW]; exact heap_step (heap_at (by simp))
   have hZ : W.heap[w.heap.size + 1 + 1]? = some (.cells #[.int .i64 0, .int .i64 0, .bool false] 74 (0, 0)) := by rw [hW]; exact heap_at (by simp)
   have hAll : ∀ w', Below W.heap.size W w' → w'.cell? ⟨w.heap.size, 0, none⟩ = some (.int .i64 a) ∧ w'.cell? ⟨w.heap.size, 1, none⟩ = some (.int .i64 b) ∧ w'.cell? ⟨w.heap.size + 1, 0, none⟩ = some (.int .i64 c) ∧ w'.cell? ⟨w.heap.size + 1, 1, none⟩ = some (.int .i64 d) := fun w' h => by
    have h1 := (h.block _ (ltHeap hX)).trans hX
    have h2 := (h.block _ (ltHeap hY)).trans hY
    exact ⟨(blk h1).1 0, (blk h1).1 1, (blk h2).1 0, (blk h2).1 1⟩
   have HAll := hidI hAll
   have HZ := hidI hZ
   have HB := hidI hb
   clear hAll hX hY hZ hW hb
   refine wp_region_calm (S := fun w' => Below W.heap.size W w') (by kernel_rfl) 12 ?_
   refine takeZ 0 65 (.pointer (some ⟨w.heap.size, 0, none⟩)) rfl rfl (by kernel_rfl) (by kernel_rfl) (by kernel_rfl) (by kernel_rfl) (fun _ _ _ h => h) (Or.inl ⟨by rfl, fun w' h => ?_⟩) (Below.refl _ _).drew ?_
   ·obtain ⟨h1, h2, h3, h4⟩ := HAll.out w' h
    go_simp
   refine takeZ 1 66 (.int .i64 a) rfl rfl (by kernel_rfl) (by kernel_rfl) (by kernel_rfl) (by kernel_rfl) (fun _ _ _ h => h) (Or.inl ⟨by rfl, fun w' h => ?_⟩) (Below.refl _ _).drew ?_
   ·obtain ⟨h1, h2, h3, h4⟩ := HAll.out w' h
    go_simp
   refine takeZ 2 67 (.pointer (some ⟨w.heap.size + 1, 0, none⟩)) rfl rfl (by kernel_rfl) (by kernel_rfl) (by kernel_rfl) (by kernel_rfl) (fun _ _ _ h => h) (Or.inl ⟨by rfl, fun w' h => ?_⟩) (Below.refl _ _).drew ?_
   ·obtain ⟨h1, h2, h3, h4⟩ := HAll.out w' h
    go_simp
   refine takeZ 3 68 (.int .i64 c) rfl rfl (by kernel_rfl) (by kernel_rfl) (by kernel_rfl) (by kernel_rfl) (fun _ _ _ h => h) (Or.inl ⟨by rfl, fun w' h => ?_⟩) (Below.refl _ _).drew ?_
   ·obtain ⟨h1, h2, h3, h4⟩ := HAll.out w' h
    go_simp
   refine takeZ 4 69 (.int .i64 N) rfl rfl (by kernel_rfl) (by kernel_rfl) (by kernel_rfl) (by kernel_rfl) (fun _ _ _ h => h) (Or.inl ⟨by rfl, fun w' h => ?_⟩) (Below.refl _ _).drew ?_
   ·obtain ⟨h1, h2, h3, h4⟩ := HAll.out w' h
    go_simp
   refine takeZ 5 70 (.pointer (some ⟨w.heap.size, 1, none⟩)) rfl rfl (by kernel_rfl) (by kernel_rfl) (by kernel_rfl) (by kernel_rfl) (fun _ _ _ h => h) (Or.inl ⟨by rfl, fun w' h => ?_⟩) (Below.refl _ _).drew ?_
   ·obtain ⟨h1, h2, h3, h4⟩ := HAll.out w' h
    go_simp
   refine takeZ 6 71 (.int .i64 b) rfl rfl (by kernel_rfl) (by kernel_rfl) (by kernel_rfl) (by kernel_rfl) (fun _ _ _ h => h) (Or.inl ⟨by rfl, fun w' h => ?_⟩) (Below.refl _ _).drew ?_
   ·obtain ⟨h1, h2, h3, h4⟩ := HAll.out w' h
    go_simp
   refine takeZ 7 72 (.pointer (some ⟨w.heap.size + 1, 1, none⟩)) rfl rfl (by kernel_rfl) (by kernel_rfl) (by kernel_rfl) (by kernel_rfl) (fun _ _ _ h => h) (Or.inl ⟨by rfl, fun w' h => ?_⟩) (Below.refl _ _).drew ?_
   ·obtain ⟨h1, h2, h3, h4⟩ := HAll.out w' h
    go_simp
   refine takeZ 8 73 (.int .i64 d) rfl rfl (by kernel_rfl) (by kernel_rfl) (by kernel_rfl) (by kernel_rfl) (fun _ _ _ h => h) (Or.inl ⟨by rfl, fun w' h => ?_⟩) (Below.refl _ _).drew ?_
   ·obtain ⟨h1, h2, h3, h4⟩ := HAll.out w' h
    go_simp
   refine takeZ 9 74 (.int .i64 M) rfl rfl (by kernel_rfl) (by kernel_rfl) (by kernel_rfl) (by kernel_rfl) (fun _ _ _ h => h) (Or.inl ⟨by rfl, fun w' h => ?_⟩) (Below.refl _ _).drew ?_
   ·obtain ⟨h1, h2, h3, h4⟩ := HAll.out w' h
    go_simp
   refine stepZ_1 (i := 10) (by kernel_rfl) (stepZ_callTo 75 rfl rfl rfl (by go_simp) (spanMask_any M _ hM0 hM1) ?_)
   rintro e w3 ⟨rfl, hw3⟩
   rw [hw3]
   clear hw3
   refine ⟨_, rfl, (Below.refl _ W).drew, ?_⟩
   refine stepZ_1 (i := 11) (by kernel_rfl) (stepZ_callTo 76 rfl rfl rfl (by go_simp) (spanFrom_any N (maskS M) _) ?_)
   rintro e w4 ⟨rfl, hw4⟩
   have hb4 : Below W.heap.size W w4 := by rw [hw4]; exact (Below.refl _ W).drew.alloc (Nat.le_refl _) _
   clear hw4
   refine ⟨_, rfl, hb4, ?_⟩
   have hZ4 := (hb4.block _ (ltHeap HZ.out)).trans HZ.out
   have z4 := ltHeap hZ4
   have c0 := (blk hZ4).1 0
   have c1 := (blk hZ4).1 1
   have c2 := (blk hZ4).1 2
   have cf := (blk hZ4).2
   simp only [List.getElem?_toArray, List.getElem?_cons_zero, List.getElem?_cons_succ] at c0 c1 c2
   obtain ⟨W5, hW5⟩ : ∃ W5, W5 = ((w4.setCell ⟨w.heap.size + 1 + 1, 0, none⟩ (.int .i64 N)).setCell ⟨w.heap.size + 1 + 1, 1, none⟩ (.int .i64 (maskS M))).setCell ⟨w.heap.size + 1 + 1, 2, none⟩ (.bool true) := ⟨_, rfl⟩
   refine stepZ_1 (i := 12) (by kernel_rfl) (stepZ_skipNo W5 rfl rfl rfl (by rw [hW5]; go_simp) (fun h => absurd rfl h) (wpAnyZ_done (by kernel_rfl) ?_ _))
   have hZ5 : W5.heap[w.heap.size + 1 + 1]? = some (.cells #[.int .i64 N, .int .i64 (maskS M), .bool true] 74 (0, 0)) := by
    rw [hW5, row_set (row_set (row_set hZ4 0 _) 1 _) 2 _]
    rfl
   have hb5 : Below w.heap.size w W5 := by
    rw [hW5]
    exact (((HB.out.trans (hb4.mono HB.out.size)).setCell (by show w.heap.size ≤ w.heap.size + 1 + 1; omega) _).setCell (by show w.heap.size ≤ w.heap.size + 1 + 1; omega) _).setCell (by show w.heap.size ≤ w.heap.size + 1 + 1; omega) _
   have e0 : W5.cell? ⟨w.heap.size + 1 + 1, 0, none⟩ = some (.int .i64 N) := (blk hZ5).1 0
   have e1 : W5.cell? ⟨w.heap.size + 1 + 1, 1, none⟩ = some (.int .i64 (maskS M)) := (blk hZ5).1 1
   have e2 : W5.cell? ⟨w.heap.size + 1 + 1, 2, none⟩ = some (.bool true) := (blk hZ5).1 2
   have HB5 := hidI hb5
   clear hW5 hZ5 hb5 hb4 hZ4 c0 c1 c2 cf z4
   simp only [calm, Exit.then]
   go_simp
   go_wp2_with fail
   refine bodyPost_ret (v := .agg #[.int .i64 N, .int .i64 (maskS M), .bool true]) ?_ rfl ⟨by rw [HD.out]; rfl, HB5.out⟩
   simp [results, Tryd.results97, go_sem, e0, e1, e2]
 ·by_cases hn : a < 0 ∨ c < 0
  ·have HD := hidI (show logS 9 ⟨a, b, true⟩ ⟨c, d, true⟩ = allS from by unfold logS; rw [if_neg (by decide), if_pos hn])
   simp only [spC]
   go_enter Tryd.func97, Tryd.ntmps97
   go_wp2_with fail
   all_goals
    refine bodyPost_ret ?_ rfl ⟨by rw [HD.out], ?_⟩
    ·first
      | (simp [results, Tryd.results97, go_sem, allS, minI, maxI]; done)
      | (simp [results, Tryd.results97, go_sem, spC, ofS]; omega)
    ·repeat (first | (with_reducible first | exact bR _ _ | exact bH ‹_› | refine bD ?_ | refine bN ?_ _ | refine bS ?_ ?_ _ | refine bA ?_ ?_ _ | refine bT hb3 ?_ ?_ | refine bT hb5 ?_ ?_ | refine bT hb4 ?_ ?_) | omega | (simp; omega) | simp)
  ·have HD := hidI (show logS 9 ⟨a, b, true⟩ ⟨c, d, true⟩ = ofS 0 (maskS (max b d)) from by unfold logS; rw [if_neg (by decide), if_neg hn, if_neg (by decide)])
   obtain ⟨M, hM⟩ : ∃ M, M = max b d := ⟨_, rfl⟩
   rw [← hM] at HD
   have hM0 : 0 ≤ M := by omega
   have hM1 : M ≤ 9223372036854775807 := by omega
   have ha0 : ¬ a < 0 := by omega
   have hc0 : ¬ c < 0 := by omega
   have hmx2 : ∀ w, (Builtin.max_ #[3, 3] 3 #[.int .i64 b, .int .i64 d]).run Tryd.prog w = .ok (.int .i64 M) w := fun w => by rw [hM]; exact run_max2 b d w
   clear hM g0 g1 g2 zg hn
   simp only [spC]
   go_enter Tryd.func97, Tryd.ntmps97
   go_wp2_with (first | (go_at_call 128; refine (spanMask_any M _ hM0 hM1).mono ?_; rintro e w3 ⟨rfl, hw3⟩; rw [hw3]; clear hw3) | (go_at_call 85; refine (spanFrom_any _ _ _).mono ?_; rintro e w1 ⟨rfl, rfl⟩))
   all_goals
    refine bodyPost_ret ?_ rfl ⟨by rw [HD.out], ?_⟩
    ·first
      | (simp [results, Tryd.results97, go_sem, ofS]; done)
      | (simp [results, Tryd.results97, go_sem, spC, ofS]; omega)
    ·repeat (first | (with_reducible first | exact bR _ _ | exact bH ‹_› | refine bD ?_ | refine bN ?_ _ | refine bS ?_ ?_ _ | refine bA ?_ ?_ _ | refine bT hb3 ?_ ?_ | refine bT hb5 ?_ ?_ | refine bT hb4 ?_ ?_) | omega | (simp; omega) | simp)
end Go.Proofs.YtdjamkinijhjoaaDoor
