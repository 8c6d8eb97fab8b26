/-
  The contract of the reference's spanBits.
-/
import Derived.Deep.LoopGhost
import Derived.WalkKit
import Derived.WalkSpells
import Derived.WalkLawsBesides
import Derived.Test.YtdjamkinijhjoaaDoorJRunV
import Derived.Test.YtdjamkinijhjoaaDoorJSpnC
namespace Go.Proofs.YtdjamkinijhjoaaDoor
open Go.RowKit Go.Shelf Go.Lib

/-- so many ones -/
def onesI (k : Nat) : Int := 2 ^ k - 1
theorem onesI_zero : onesI 0 = 0 := by decide
theorem onesI_succ (k : Nat) : onesI (k + 1) = 2 * onesI k + 1 := by unfold onesI; rw [Int.pow_succ]; omega
theorem onesI_nat (k : Nat) : onesI k = ((2 ^ k : Nat) : Int) - 1 := by unfold onesI; simp
theorem onesI_mono {k m : Nat} (h : k ≤ m) : onesI k ≤ onesI m := by
  rw [onesI_nat, onesI_nat]
  have := Nat.pow_le_pow_right (n := 2) (by omega) h
  omega
theorem onesI_lt {k : Nat} {M : Int} (_h0 : 0 ≤ M) (h : k < lenBt M) : onesI k < M := by
  unfold lenBt at h
  split at h
  · omega
  · have hn : M.toNat ≠ 0 := by omega
    have h1 := Nat.log2_self_le hn
    have h2 : 2 ^ k ≤ 2 ^ M.toNat.log2 := Nat.pow_le_pow_right (by omega) (by omega)
    rw [onesI_nat]
    omega
theorem onesI_ge {M : Int} (_h0 : 0 ≤ M) : M ≤ onesI (lenBt M) := by
  unfold lenBt
  split
  · rw [onesI_zero]; omega
  · have h2 : M.toNat < 2 ^ (M.toNat.log2 + 1) := Nat.lt_log2_self
    rw [onesI_nat]
    omega
theorem lenBt_le {M : Int} (h1 : M ≤ 9223372036854775807) : lenBt M ≤ 63 := by
  unfold lenBt
  split
  · omega
  · have hn : M.toNat ≠ 0 := by omega
    have h3 : M.toNat.log2 < 63 := (Nat.log2_lt hn).2 (by omega)
    omega
theorem maskS_ones (M : Int) : maskS M = onesI (lenBt M) := rfl
theorem onesI_62 : onesI 62 = 4611686018427387903 := by decide +kernel
set_option maxRecDepth 100000 in
set_option maxHeartbeats 2000000 in
theorem rBits_7 (a b c d : Int) (w : World) (ha : I64 a) (_hb : I64 b) (hd : I64 d) :
    Calls Tryd.prog 62 #[.int .i64 7, .agg #[.int .i64 a, .int .i64 b, .bool true], .agg #[.int .i64 c, .int .i64 d, .bool true]] w fun e w' => e = .returned (.agg #[.int .i64 (logS 7 ⟨a, b, true⟩ ⟨c, d, true⟩).lo, .int .i64 (logS 7 ⟨a, b, true⟩ ⟨c, d, true⟩).hi, .bool (logS 7 ⟨a, b, true⟩ ⟨c, d, true⟩).has]) ∧ Below w.heap.size w w' := by
  unfold I64 at ha _hb hd
  by_cases h1 : 0 ≤ a
  · have n1 : ¬ a < 0 := by omega
    by_cases h2 : 0 ≤ c
    · have n2 : ¬ c < 0 := by omega
      have HD := hidI (show logS 7 ⟨a, b, true⟩ ⟨c, d, true⟩ = ofS 0 (min b d) from by unfold logS; simp [h1, h2])
      go_enter Tryd.func62, Tryd.ntmps62
      go_wp2_with (go_at_call 59; refine (rOf_any _ _ _).mono ?_; rintro e w1 ⟨rfl, rfl⟩)
      all_goals
        refine bodyPost_ret ?_ rfl ⟨by rw [HD.out], ?_⟩
        · simp [results, Tryd.results62, go_sem, ofS]
        · repeat (first | with_reducible exact Below.refl _ _ | with_reducible exact HB3.out | with_reducible refine Below.drew ?_ | with_reducible refine below_drewN ?_ _ | with_reducible refine Below.setCell ?_ ?_ _ | with_reducible refine Below.alloc ?_ ?_ _ | with_reducible exact HB2.out | with_reducible exact HB1.out | with_reducible refine Below.trans ?_ (Below.mono hb3 ?_) | with_reducible refine Below.trans ?_ (Below.mono hb5 ?_) | with_reducible refine Below.trans ?_ (Below.mono hb4 ?_) | omega | (simp; omega) | simp)
    · have HD := hidI (show logS 7 ⟨a, b, true⟩ ⟨c, d, true⟩ = ofS 0 b from by unfold logS; simp [h1, h2])
      go_enter Tryd.func62, Tryd.ntmps62
      go_wp2_with (go_at_call 59; refine (rOf_any _ _ _).mono ?_; rintro e w1 ⟨rfl, rfl⟩)
      all_goals
        refine bodyPost_ret ?_ rfl ⟨by rw [HD.out], ?_⟩
        · simp [results, Tryd.results62, go_sem, ofS]
        · repeat (first | with_reducible exact Below.refl _ _ | with_reducible exact HB3.out | with_reducible refine Below.drew ?_ | with_reducible refine below_drewN ?_ _ | with_reducible refine Below.setCell ?_ ?_ _ | with_reducible refine Below.alloc ?_ ?_ _ | with_reducible exact HB2.out | with_reducible exact HB1.out | with_reducible refine Below.trans ?_ (Below.mono hb3 ?_) | with_reducible refine Below.trans ?_ (Below.mono hb5 ?_) | with_reducible refine Below.trans ?_ (Below.mono hb4 ?_) | omega | (simp; omega) | simp)
  · have n1 : a < 0 := by omega
    by_cases h2 : 0 ≤ c
    · have n2 : ¬ c < 0 := by omega
      have HD := hidI (show logS 7 ⟨a, b, true⟩ ⟨c, d, true⟩ = ofS 0 d from by unfold logS; simp [h1, h2])
      have hm : min 9223372036854775807 d = d := by omega
      go_enter Tryd.func62, Tryd.ntmps62
      go_wp2_with (go_at_call 59; refine (rOf_any _ _ _).mono ?_; rintro e w1 ⟨rfl, rfl⟩)
      all_goals
        refine bodyPost_ret ?_ rfl ⟨by rw [HD.out], ?_⟩
        · simp [results, Tryd.results62, go_sem, ofS]
        · repeat (first | with_reducible exact Below.refl _ _ | with_reducible exact HB3.out | with_reducible refine Below.drew ?_ | with_reducible refine below_drewN ?_ _ | with_reducible refine Below.setCell ?_ ?_ _ | with_reducible refine Below.alloc ?_ ?_ _ | with_reducible exact HB2.out | with_reducible exact HB1.out | with_reducible refine Below.trans ?_ (Below.mono hb3 ?_) | with_reducible refine Below.trans ?_ (Below.mono hb5 ?_) | with_reducible refine Below.trans ?_ (Below.mono hb4 ?_) | omega | (simp; omega) | simp)
    · have n2 : c < 0 := by omega
      have HD := hidI (show logS 7 ⟨a, b, true⟩ ⟨c, d, true⟩ = ofS (-9223372036854775808) 9223372036854775807 from by unfold logS; simp [h1, h2]; rfl)
      go_enter Tryd.func62, Tryd.ntmps62
      go_wp2_with (go_at_call 25; refine (rAll_any _).mono ?_; rintro e w1 ⟨rfl, rfl⟩)
      all_goals
        refine bodyPost_ret ?_ rfl ⟨by rw [HD.out], ?_⟩
        · simp [results, Tryd.results62, go_sem, ofS]
        · repeat (first | with_reducible exact Below.refl _ _ | with_reducible exact HB3.out | with_reducible refine Below.drew ?_ | with_reducible refine below_drewN ?_ _ | with_reducible refine Below.setCell ?_ ?_ _ | with_reducible refine Below.alloc ?_ ?_ _ | with_reducible exact HB2.out | with_reducible exact HB1.out | with_reducible refine Below.trans ?_ (Below.mono hb3 ?_) | with_reducible refine Below.trans ?_ (Below.mono hb5 ?_) | with_reducible refine Below.trans ?_ (Below.mono hb4 ?_) | omega | (simp; omega) | simp)
set_option maxRecDepth 100000 in
set_option maxHeartbeats 2000000 in
theorem rBits_no (op a b c d : Int) (w : World) (hop : op = 8 ∨ op = 9) (hn : a < 0 ∨ c < 0) :
    Calls Tryd.prog 62 #[.int .i64 op, .agg #[.int .i64 a, .int .i64 b, .bool true], .agg #[.int .i64 c, .int .i64 d, .bool true]] w fun e w' => e = .returned (.agg #[.int .i64 (-9223372036854775808), .int .i64 9223372036854775807, .bool true]) ∧ Below w.heap.size w w' := by
  by_cases h1 : a < 0
  · rcases hop with rfl | rfl
    all_goals
      go_enter Tryd.func62, Tryd.ntmps62
      go_wp2_with (go_at_call 25; refine (rAll_any _).mono ?_; rintro e w1 ⟨rfl, rfl⟩)
      all_goals
        refine bodyPost_ret ?_ rfl ⟨rfl, ?_⟩
        · simp [results, Tryd.results62, go_sem]
        · repeat (first | with_reducible exact Below.refl _ _ | with_reducible exact HB3.out | with_reducible refine Below.drew ?_ | with_reducible refine below_drewN ?_ _ | with_reducible refine Below.setCell ?_ ?_ _ | with_reducible refine Below.alloc ?_ ?_ _ | with_reducible exact HB2.out | with_reducible exact HB1.out | with_reducible refine Below.trans ?_ (Below.mono hb3 ?_) | with_reducible refine Below.trans ?_ (Below.mono hb5 ?_) | with_reducible refine Below.trans ?_ (Below.mono hb4 ?_) | omega | (simp; omega) | simp)
  · have h2 : c < 0 := by omega
    clear hn
    rcases hop with rfl | rfl
    all_goals
      go_enter Tryd.func62, Tryd.ntmps62
      go_wp2_with (go_at_call 25; refine (rAll_any _).mono ?_; rintro e w1 ⟨rfl, rfl⟩)
      all_goals
        refine bodyPost_ret ?_ rfl ⟨rfl, ?_⟩
        · simp [results, Tryd.results62, go_sem]
        · repeat (first | with_reducible exact Below.refl _ _ | with_reducible exact HB3.out | with_reducible refine Below.drew ?_ | with_reducible refine below_drewN ?_ _ | with_reducible refine Below.setCell ?_ ?_ _ | with_reducible refine Below.alloc ?_ ?_ _ | with_reducible exact HB2.out | with_reducible exact HB1.out | with_reducible refine Below.trans ?_ (Below.mono hb3 ?_) | with_reducible refine Below.trans ?_ (Below.mono hb5 ?_) | with_reducible refine Below.trans ?_ (Below.mono hb4 ?_) | omega | (simp; omega) | simp)
set_option maxRecDepth 100000 in
set_option maxHeartbeats 2000000 in
theorem rBits_8 (a b c d : Int) (w : World) (ha : 0 ≤ a) (hc : 0 ≤ c) (hb : b ≤ 9223372036854775807) (hd : d ≤ 9223372036854775807) (h0 : 0 ≤ max b d) :
    Calls Tryd.prog 62 #[.int .i64 8, .agg #[.int .i64 a, .int .i64 b, .bool true], .agg #[.int .i64 c, .int .i64 d, .bool true]] w fun e w' => e = .returned (.agg #[.int .i64 (max a c), .int .i64 (maskS (max b d)), .bool true]) ∧ Below w.heap.size w w' := by
  have n1 : ¬ a < 0 := by omega
  have n2 : ¬ c < 0 := by omega
  obtain ⟨M, hM⟩ : ∃ M, M = max b d := ⟨_, rfl⟩
  obtain ⟨N, hN⟩ : ∃ N, N = max a c := ⟨_, rfl⟩
  have hM1 : M ≤ 9223372036854775807 := by omega
  have hmx1 : ∀ w, (Builtin.max_ #[3, 3] 3 #[.int .i64 a, .int .i64 c]).run Tryd.prog w = .ok (.int .i64 N) w := fun w => by rw [hN]; exact run_max2 a c w
  have hmx2 : ∀ w, (Builtin.max_ #[3, 3] 3 #[.int .i64 b, .int .i64 d]).run Tryd.prog w = .ok (.int .i64 M) w := fun w => by rw [hM]; exact run_max2 b d w
  rw [← hM] at h0
  rw [← hM, ← hN, maskS_ones]
  have hwr : ∀ n, IntKind.i64.wrap n = wrap64 n := IntWalk.i64_left
  clear hM hN hb hd
  have H63 := hidI (lenBt_le hM1)
  obtain ⟨L, hL⟩ : ∃ L, L = lenBt M := ⟨_, rfl⟩
  have HLt := hidI (fun k => onesI_lt (k := k) h0)
  have HGe := hidI (onesI_ge h0)
  rw [← hL] at H63 HLt HGe ⊢
  clear hL
  go_enter Tryd.func62, Tryd.ntmps62
  go_wp2_with fail
  obtain ⟨W, hW⟩ : ∃ W, W = ((w.alloc (.cells #[.int .i64 a, .int .i64 b, .bool true] 40)).alloc (.cells #[.int .i64 c, .int .i64 d, .bool true] 40)).alloc (.cells #[.int .i64 0, .int .i64 0, .bool false] 40) := ⟨_, rfl⟩
  rw [← hW]
  have HB := hidI (show Below w.heap.size w W by rw [hW]; repeat (first | with_reducible exact Below.refl _ _ | with_reducible exact HB3.out | with_reducible refine Below.drew ?_ | with_reducible refine below_drewN ?_ _ | with_reducible refine Below.setCell ?_ ?_ _ | with_reducible refine Below.alloc ?_ ?_ _ | with_reducible exact HB2.out | with_reducible exact HB1.out | with_reducible refine Below.trans ?_ (Below.mono hb3 ?_) | with_reducible refine Below.trans ?_ (Below.mono hb5 ?_) | with_reducible refine Below.trans ?_ (Below.mono hb4 ?_) | omega | (simp; omega) | simp))
  have hX : W.heap[w.heap.size]? = some (.cells #[.int .i64 a, .int .i64 b, .bool true] 40 (0, 0)) := by rw [hW]; exact heap_step (heap_step (heap_here w _))
  have hY : W.heap[w.heap.size + 1]? = some (.cells #[.int .i64 c, .int .i64 d, .bool true] 40 (0, 0)) := by rw [hW]; exact heap_step (heap_at (by simp))
  have hZ : W.heap[w.heap.size + 1 + 1]? = some (.cells #[.int .i64 0, .int .i64 0, .bool false] 40 (0, 0)) := by rw [hW]; exact heap_at (by simp)
  have x0 := (blk hX).1 0
  have x1 := (blk hX).1 1
  have y0 := (blk hY).1 0
  have y1 := (blk hY).1 1
  have z0 := (blk hZ).1 0
  have z1 := (blk hZ).1 1
  have z2 := (blk hZ).1 2
  have zf := (blk hZ).2
  have zx := ltHeap hX
  have zy := ltHeap hY
  have zz := ltHeap hZ
  simp only [List.getElem?_toArray, List.getElem?_cons_zero, List.getElem?_cons_succ] at x0 x1 y0 y1 z0 z1 z2
  clear hX hY hZ hW
  go_loopg [8] L (fun q s8 wr => ∃ k : Nat, k ≤ L ∧ q = L - k ∧ s8 = .int .i64 (onesI k) ∧ wr = W)
  case atStart => exact ⟨0, by omega, rfl, by rw [onesI_zero], rfl⟩
  case round =>
    obtain ⟨k, hk, rfl, rfl, rfl⟩ := hrel
    obtain ⟨t, ht⟩ : ∃ t, t = onesI k := ⟨_, rfl⟩
    by_cases hkl : k < L
    · have hlt : onesI k < M := HLt.out k hkl
      have h62 : onesI k ≤ 4611686018427387903 := by
        have h63 := H63.out
        rw [← onesI_62]; exact onesI_mono (by omega)
      have hge : 0 ≤ onesI k := by rw [← onesI_zero]; exact onesI_mono (Nat.zero_le _)
      have hs := hidI (onesI_succ k)
      rw [← ht] at hs hlt h62 hge ⊢
      have hw1 : wrap64 (2 * t) = 2 * t := by unfold wrap64; omega
      have hw2 : wrap64 (2 * t + 1) = 2 * t + 1 := by unfold wrap64; omega
      clear ht
      go_wp2_with fail
      go_roundg (L - (k + 1))
      case measure => omega
      case rel => exact ⟨k + 1, by omega, rfl, by rw [hs.out], rfl⟩
    · obtain rfl : k = L := by omega
      have hnl : ¬ t < M := by have := HGe.out; omega
      rw [← ht]
      have Ht := hidI ht
      clear ht
      go_wp2_with (go_at_call 59; refine (rOf_any _ _ _).mono ?_; rintro e w1 ⟨rfl, rfl⟩)
      refine bodyPost_ret (v := .agg #[.int .i64 N, .int .i64 t, .bool true]) ?_ rfl ⟨by rw [Ht.out], ?_⟩
      · simp [results, Tryd.results62, go_sem, *]
      · have := HB.out.size
        repeat (first | with_reducible exact HB.out | with_reducible refine Below.setCell ?_ ?_ _ | with_reducible refine Below.alloc ?_ ?_ _ | omega | (simp; omega) | simp)
set_option maxRecDepth 100000 in
set_option maxHeartbeats 2000000 in
theorem rBits_9 (a b c d : Int) (w : World) (ha : 0 ≤ a) (hc : 0 ≤ c) (hb : b ≤ 9223372036854775807) (hd : d ≤ 9223372036854775807) (h0 : 0 ≤ max b d) :
    Calls Tryd.prog 62 #[.int .i64 9, .agg #[.int .i64 a, .int .i64 b, .bool true], .agg #[.int .i64 c, .int .i64 d, .bool true]] w fun e w' => e = .returned (.agg #[.int .i64 0, .int .i64 (maskS (max b d)), .bool true]) ∧ Below w.heap.size w w' := by
  have n1 : ¬ a < 0 := by omega
  have n2 : ¬ c < 0 := by omega
  obtain ⟨M, hM⟩ : ∃ M, M = max b d := ⟨_, rfl⟩
  have hM1 : M ≤ 9223372036854775807 := by omega
  have hmx2 : ∀ w, (Builtin.max_ #[3, 3] 3 #[.int .i64 b, .int .i64 d]).run Tryd.prog w = .ok (.int .i64 M) w := fun w => by rw [hM]; exact run_max2 b d w
  rw [← hM] at h0
  rw [← hM, maskS_ones]
  have hwr : ∀ n, IntKind.i64.wrap n = wrap64 n := IntWalk.i64_left
  clear hM hb hd
  have H63 := hidI (lenBt_le hM1)
  obtain ⟨L, hL⟩ : ∃ L, L = lenBt M := ⟨_, rfl⟩
  have HLt := hidI (fun k => onesI_lt (k := k) h0)
  have HGe := hidI (onesI_ge h0)
  rw [← hL] at H63 HLt HGe ⊢
  clear hL
  go_enter Tryd.func62, Tryd.ntmps62
  go_wp2_with fail
  obtain ⟨W, hW⟩ : ∃ W, W = ((w.alloc (.cells #[.int .i64 a, .int .i64 b, .bool true] 40)).alloc (.cells #[.int .i64 c, .int .i64 d, .bool true] 40)).alloc (.cells #[.int .i64 0, .int .i64 0, .bool false] 40) := ⟨_, rfl⟩
  rw [← hW]
  have HB := hidI (show Below w.heap.size w W by rw [hW]; repeat (first | with_reducible exact Below.refl _ _ | with_reducible exact HB3.out | with_reducible refine Below.drew ?_ | with_reducible refine below_drewN ?_ _ | with_reducible refine Below.setCell ?_ ?_ _ | with_reducible refine Below.alloc ?_ ?_ _ | with_reducible exact HB2.out | with_reducible exact HB1.out | with_reducible refine Below.trans ?_ (Below.mono hb3 ?_) | with_reducible refine Below.trans ?_ (Below.mono hb5 ?_) | with_reducible refine Below.trans ?_ (Below.mono hb4 ?_) | omega | (simp; omega) | simp))
  have hX : W.heap[w.heap.size]? = some (.cells #[.int .i64 a, .int .i64 b, .bool true] 40 (0, 0)) := by rw [hW]; exact heap_step (heap_step (heap_here w _))
  have hY : W.heap[w.heap.size + 1]? = some (.cells #[.int .i64 c, .int .i64 d, .bool true] 40 (0, 0)) := by rw [hW]; exact heap_step (heap_at (by simp))
  have hZ : W.heap[w.heap.size + 1 + 1]? = some (.cells #[.int .i64 0, .int .i64 0, .bool false] 40 (0, 0)) := by rw [hW]; exact heap_at (by simp)
  have x0 := (blk hX).1 0
  have x1 := (blk hX).1 1
  have y0 := (blk hY).1 0
  have y1 := (blk hY).1 1
  have z0 := (blk hZ).1 0
  have z1 := (blk hZ).1 1
  have z2 := (blk hZ).1 2
  have zf := (blk hZ).2
  have zx := ltHeap hX
  have zy := ltHeap hY
  have zz := ltHeap hZ
  simp only [List.getElem?_toArray, List.getElem?_cons_zero, List.getElem?_cons_succ] at x0 x1 y0 y1 z0 z1 z2
  clear hX hY hZ hW
  go_loopg [8] L (fun q s8 wr => ∃ k : Nat, k ≤ L ∧ q = L - k ∧ s8 = .int .i64 (onesI k) ∧ wr = W)
  case atStart => exact ⟨0, by omega, rfl, by rw [onesI_zero], rfl⟩
  case round =>
    obtain ⟨k, hk, rfl, rfl, rfl⟩ := hrel
    obtain ⟨t, ht⟩ : ∃ t, t = onesI k := ⟨_, rfl⟩
    by_cases hkl : k < L
    · have hlt : onesI k < M := HLt.out k hkl
      have h62 : onesI k ≤ 4611686018427387903 := by
        have h63 := H63.out
        rw [← onesI_62]; exact onesI_mono (by omega)
      have hge : 0 ≤ onesI k := by rw [← onesI_zero]; exact onesI_mono (Nat.zero_le _)
      have hs := hidI (onesI_succ k)
      rw [← ht] at hs hlt h62 hge ⊢
      have hw1 : wrap64 (2 * t) = 2 * t := by unfold wrap64; omega
      have hw2 : wrap64 (2 * t + 1) = 2 * t + 1 := by unfold wrap64; omega
      clear ht
      go_wp2_with fail
      go_roundg (L - (k + 1))
      case measure => omega
      case rel => exact ⟨k + 1, by omega, rfl, by rw [hs.out], rfl⟩
    · obtain rfl : k = L := by omega
      have hnl : ¬ t < M := by have := HGe.out; omega
      rw [← ht]
      have Ht := hidI ht
      clear ht
      go_wp2_with (go_at_call 59; refine (rOf_any _ _ _).mono ?_; rintro e w1 ⟨rfl, rfl⟩)
      refine bodyPost_ret (v := .agg #[.int .i64 0, .int .i64 t, .bool true]) ?_ rfl ⟨by rw [Ht.out], ?_⟩
      · simp [results, Tryd.results62, go_sem, *]
      · have := HB.out.size
        repeat (first | with_reducible exact HB.out | with_reducible refine Below.setCell ?_ ?_ _ | with_reducible refine Below.alloc ?_ ?_ _ | omega | (simp; omega) | simp)
theorem rBits_any (op : Int) (x y : Spn) (w : World) (hop : op = 7 ∨ op = 8 ∨ op = 9) (hx : SpOk x) (hy : SpOk y) (hxh : x.has = true) (hyh : y.has = true) :
    Calls Tryd.prog 62 #[.int .i64 op, .agg #[.int .i64 x.lo, .int .i64 x.hi, .bool x.has], .agg #[.int .i64 y.lo, .int .i64 y.hi, .bool y.has]] w fun e w' => e = .returned (.agg #[.int .i64 (logS op x y).lo, .int .i64 (logS op x y).hi, .bool (logS op x y).has]) ∧ Below w.heap.size w w' := by
  have xle := hx.le hxh
  have yle := hy.le hyh
  have x1 := hx.lo
  have x2 := hx.hi
  have y2 := hy.hi
  obtain ⟨a, b, s⟩ := x
  obtain ⟨c, d, s2⟩ := y
  simp only at hxh hyh xle yle x1 x2 y2
  subst hxh hyh
  clear hx hy
  by_cases h7 : op = 7
  · subst h7
    exact rBits_7 a b c d w x1 x2 y2
  · have h89 : op = 8 ∨ op = 9 := by omega
    clear hop
    unfold I64 at x2 y2
    by_cases hn : a < 0 ∨ c < 0
    · have e : logS op ⟨a, b, true⟩ ⟨c, d, true⟩ = allS := by unfold logS; rw [if_neg h7, if_pos hn]
      rw [e]
      exact rBits_no op a b c d w h89 hn
    · rcases h89 with rfl | rfl
      · have e : logS 8 ⟨a, b, true⟩ ⟨c, d, true⟩ = ofS (max a c) (maskS (max b d)) := by unfold logS; rw [if_neg (by decide), if_neg hn, if_pos rfl]
        rw [e]
        exact rBits_8 a b c d w (by omega) (by omega) (by omega) (by omega) (by omega)
      · have e : logS 9 ⟨a, b, true⟩ ⟨c, d, true⟩ = ofS 0 (maskS (max b d)) := by unfold logS; rw [if_neg (by decide), if_neg hn, if_neg (by decide)]
        rw [e]
        exact rBits_9 a b c d w (by omega) (by omega) (by omega) (by omega) (by omega)
end Go.Proofs.YtdjamkinijhjoaaDoor
