/-
  The law CallsRest, walked out of the contracts.
-/
import Derived.Test.YtdjamkinijhjoaaDoorDoS
import Derived.Test.YtdjamkinijhjoaaDoorDonE
import Derived.WalkKit
import Derived.WalkSpells
import Derived.WalkLawsBesides
namespace Go.Proofs.YtdjamkinijhjoaaDoor
open Go.RowKit Go.Shelf

set_option maxRecDepth 100000 in
set_option maxHeartbeats 1000000 in
theorem crest_bad (u : UniL) (gp fp : Option Addr) (gc fc : Nat) (w : World) (hG0 : SlF w 3 48 (GloR w) (.slice gp u.globals.length gc) u.globals) (hF0 : SlF w 4 56 (FunR w) (.slice fp u.funcs.length fc) u.funcs) (hw0 : Ways w) (h : (chk u).1 ≠ 0) :
    Calls Tryd.prog 6 #[.agg #[.slice gp u.globals.length gc, .slice fp u.funcs.length fc]] w fun e w' => e = .returned (.bool true) ∧ Below w.heap.size w w' := by
  obtain ⟨⟨hgl, hG⟩, hfl, hF⟩ := unitAt hG0 hF0
  have HG := hidI hG
  have HF := hidI hF
  have HW := hidI hw0
  have HH := hidI h
  have hne : ((chk u).1 != 0) = true := by simp [h]
  clear hG hF hG0 hF0 hw0 h
  go_enter Tryd.func6, Tryd.ntmps6
  go_wp2_with fail
  refine (do_bad u _ _ _ _ _ hgl (glosMono HG.out (by repeat (first | with_reducible exact Below.refl _ _ | with_reducible exact HB3.out | with_reducible refine Below.drew ?_ | with_reducible refine below_drewN ?_ _ | with_reducible refine Below.setCell ?_ ?_ _ | with_reducible refine Below.alloc ?_ ?_ _ | with_reducible exact HB2.out | with_reducible exact HB1.out | with_reducible refine Below.trans ?_ (Below.mono hb3 ?_) | with_reducible refine Below.trans ?_ (Below.mono hb5 ?_) | with_reducible refine Below.trans ?_ (Below.mono hb4 ?_) | omega | (simp; omega) | simp))) hfl (funsMono HF.out (by repeat (first | with_reducible exact Below.refl _ _ | with_reducible exact HB3.out | with_reducible refine Below.drew ?_ | with_reducible refine below_drewN ?_ _ | with_reducible refine Below.setCell ?_ ?_ _ | with_reducible refine Below.alloc ?_ ?_ _ | with_reducible exact HB2.out | with_reducible exact HB1.out | with_reducible refine Below.trans ?_ (Below.mono hb3 ?_) | with_reducible refine Below.trans ?_ (Below.mono hb5 ?_) | with_reducible refine Below.trans ?_ (Below.mono hb4 ?_) | omega | (simp; omega) | simp))) (HW.out.below (by repeat (first | with_reducible exact Below.refl _ _ | with_reducible exact HB3.out | with_reducible refine Below.drew ?_ | with_reducible refine below_drewN ?_ _ | with_reducible refine Below.setCell ?_ ?_ _ | with_reducible refine Below.alloc ?_ ?_ _ | with_reducible exact HB2.out | with_reducible exact HB1.out | with_reducible refine Below.trans ?_ (Below.mono hb3 ?_) | with_reducible refine Below.trans ?_ (Below.mono hb5 ?_) | with_reducible refine Below.trans ?_ (Below.mono hb4 ?_) | omega | (simp; omega) | simp))) HH.out).mono ?_
  rintro e w1 ⟨rfl, hb1⟩
  have HB1 : Hid (Below w.heap.size w w1) := Below.trans (by repeat (first | with_reducible exact Below.refl _ _ | with_reducible exact HB3.out | with_reducible refine Below.drew ?_ | with_reducible refine below_drewN ?_ _ | with_reducible refine Below.setCell ?_ ?_ _ | with_reducible refine Below.alloc ?_ ?_ _ | with_reducible exact HB2.out | with_reducible exact HB1.out | with_reducible refine Below.trans ?_ (Below.mono hb3 ?_) | with_reducible refine Below.trans ?_ (Below.mono hb5 ?_) | with_reducible refine Below.trans ?_ (Below.mono hb4 ?_) | omega | (simp; omega) | simp)) (hb1.mono (by simp))
  clear hb1
  have hzz : w.heap.size < w1.heap.size + 1 := by have := HB1.out.size; omega
  go_wp2_with (go_at_call 15; refine (none_none _).mono ?_; rintro e w4 ⟨rfl, hb4⟩)
  have HB4 : Hid (Below w.heap.size w w4) := Below.trans (by repeat (first | with_reducible exact Below.refl _ _ | with_reducible exact HB3.out | with_reducible refine Below.drew ?_ | with_reducible refine below_drewN ?_ _ | with_reducible refine Below.setCell ?_ ?_ _ | with_reducible refine Below.alloc ?_ ?_ _ | with_reducible exact HB2.out | with_reducible exact HB1.out | with_reducible refine Below.trans ?_ (Below.mono hb3 ?_) | with_reducible refine Below.trans ?_ (Below.mono hb5 ?_) | with_reducible refine Below.trans ?_ (Below.mono hb4 ?_) | omega | (simp; omega) | simp)) (hb4.mono (by have := HB1.out.size; simp; omega))
  clear hb4
  go_wp2_with fail
  go_ret
  exact ⟨rfl, HB4.out⟩

theorem do_again (D : UniL) (p1 p2 : Option Addr) (c1 c2 m ng K : Nat) (hng : D.globals.length = ng) (hK : D.funcs.length = K) (w : World) (hG : SlF w 3 48 (GloR w) (.slice p1 D.globals.length c1) D.globals) (hF : SlF w 4 56 (FunR w) (.slice p2 D.funcs.length c2) D.funcs) (hw : Ways w) (hc : (chk D).1 = 0) (hm : mainI D.funcs = some m) (hs : doneU (tableU D.funcs m) D = D) :
    Calls Tryd.prog 13 #[.agg #[.slice p1 ng c1, .slice p2 K c2]] w fun e w' => (∃ q1 d1 q2 d2, e = .returned (.tuple #[.agg #[.slice q1 ng d1, .slice q2 K d2], .agg #[.int .i64 0, .int .i64 0]]) ∧ SlF w' 3 48 (GloR w') (.slice q1 D.globals.length d1) D.globals ∧ SlF w' 4 56 (FunR w') (.slice q2 D.funcs.length d2) D.funcs) ∧ Below w.heap.size w w' := by
  subst hng hK
  obtain ⟨⟨hgl, _⟩, hfl, _⟩ := unitAt hG hF
  refine (do_ok D p1 p2 c1 c2 m w hgl hG hfl hF hw hc hm).mono ?_
  rintro e w' ⟨⟨q1, d1, q2, d2, rfl, S, hS, _⟩, hb⟩
  rw [hs] at hS
  obtain ⟨_, _, e1, a1, a2⟩ := hS.read
  simp only [List.cons.injEq, and_true] at e1
  obtain ⟨rfl, rfl⟩ := e1
  exact ⟨⟨q1, d1, q2, d2, by rw [hs], a1, a2⟩, hb⟩
theorem units_sameD (D : UniL) (p1 p2 q1 q2 : Option Addr) (c1 c2 d1 d2 ng K : Nat) (hng : D.globals.length = ng) (hK : D.funcs.length = K) (w : World) (hG : SlF w 3 48 (GloR w) (.slice p1 D.globals.length c1) D.globals) (hF : SlF w 4 56 (FunR w) (.slice p2 D.funcs.length c2) D.funcs) (gG : SlF w 3 48 (GloR w) (.slice q1 D.globals.length d1) D.globals) (gF : SlF w 4 56 (FunR w) (.slice q2 D.funcs.length d2) D.funcs) :
    Calls Tryd.prog 16 #[.agg #[.slice p1 ng c1, .slice p2 K c2], .agg #[.slice q1 ng d1, .slice q2 K d2]] w fun e w' => e = .returned (.bool true) ∧ Below w.heap.size w w' := by
  subst hng hK
  exact units_same D p1 p2 q1 q2 c1 c2 d1 d2 w hG hF gG gF

set_option maxRecDepth 100000 in
set_option maxHeartbeats 2000000 in
theorem crest_ok (u : UniL) (gp fp : Option Addr) (gc fc m : Nat) (w : World) (hG0 : SlF w 3 48 (GloR w) (.slice gp u.globals.length gc) u.globals) (hF0 : SlF w 4 56 (FunR w) (.slice fp u.funcs.length fc) u.funcs) (hw0 : Ways w) (h : (chk u).1 = 0) (hm : mainI u.funcs = some m) :
    Calls Tryd.prog 6 #[.agg #[.slice gp u.globals.length gc, .slice fp u.funcs.length fc]] w fun e w' => e = .returned (.bool true) ∧ Below w.heap.size w w' := by
  obtain ⟨⟨hgl, hG⟩, hfl, hF⟩ := unitAt hG0 hF0
  have hok := (chk_ok h).2
  have hnf := hok.nf
  have hml := mainI_lt hm
  have hD := done_ok hok hm
  obtain ⟨D, hDe⟩ : ∃ D, D = doneU (tableU u.funcs m) u := ⟨_, rfl⟩
  obtain ⟨K, hK⟩ : ∃ K, K = cnt (tableU u.funcs m) u.funcs.length := ⟨_, rfl⟩
  have hDl : D.funcs.length = K := by rw [hDe, hK]; exact done_len hok hm
  have hDg : D.globals = u.globals := by rw [hDe]; rfl
  have hKp : 0 < K := by rw [hK]; exact Nat.lt_of_le_of_lt (Nat.zero_le _) (cnt_lt (tableU u.funcs m) hml (had_main hok hm))
  have hKn : K ≤ u.funcs.length := by rw [hK]; exact cnt_le _ _
  have hDm : mainI D.funcs = some (cnt (tableU u.funcs m) m) := by rw [hDe]; exact done_main hok hm
  have hDc : (chk D).1 = 0 := by rw [hDe]; exact ChkOk.chk0 (done_ok hok hm) (done_main hok hm)
  have hDs : doneU (tableU D.funcs (cnt (tableU u.funcs m) m)) D = D := by rw [hDe]; exact done_same hok hm
  have hNames : ∀ k (hk : k < u.funcs.length), tableU u.funcs m k = true → ∃ hc : cnt (tableU u.funcs m) k < D.funcs.length, D.funcs[cnt (tableU u.funcs m) k].name = u.funcs[k].name := fun k hk hh => by
    have h1 := done_get hok hm hk hh
    rw [← hDe] at h1
    obtain ⟨h2, h3⟩ := List.getElem?_eq_some_iff.1 h1
    exact ⟨h2, by rw [h3]; rfl⟩
  have HG := hidI hG
  have HF := hidI hF
  have HG0 := hidI hG0
  have HF0 := hidI hF0
  have HW := hidI hw0
  have HH := hidI h
  have HM := hidI hm
  have HD := hidI (And.intro hDm (And.intro hDc hDs))
  have HDe := hidI hDe
  have HDl := hidI hDl
  have HDg := hidI hDg
  have HK := hidI hK
  have HNm := hidI hNames
  have HHm := hidI (had_main hok hm)
  clear hG hF hG0 hF0 hw0 h hm hok hD hDm hDc hDs hDe hDl hDg hK hNames
  go_enter Tryd.func6, Tryd.ntmps6
  go_wp2_with fail
  refine (do_ok u gp fp gc fc m _ hgl (HG0.out.mono (by repeat (first | with_reducible exact Below.refl _ _ | with_reducible exact HB3.out | with_reducible refine Below.drew ?_ | with_reducible refine below_drewN ?_ _ | with_reducible refine Below.setCell ?_ ?_ _ | with_reducible refine Below.alloc ?_ ?_ _ | with_reducible exact HB2.out | with_reducible exact HB1.out | with_reducible refine Below.trans ?_ (Below.mono hb3 ?_) | with_reducible refine Below.trans ?_ (Below.mono hb5 ?_) | with_reducible refine Below.trans ?_ (Below.mono hb4 ?_) | omega | (simp; omega) | simp)) (by omega) fun _ _ g => g.below (by repeat (first | with_reducible exact Below.refl _ _ | with_reducible exact HB3.out | with_reducible refine Below.drew ?_ | with_reducible refine below_drewN ?_ _ | with_reducible refine Below.setCell ?_ ?_ _ | with_reducible refine Below.alloc ?_ ?_ _ | with_reducible exact HB2.out | with_reducible exact HB1.out | with_reducible refine Below.trans ?_ (Below.mono hb3 ?_) | with_reducible refine Below.trans ?_ (Below.mono hb5 ?_) | with_reducible refine Below.trans ?_ (Below.mono hb4 ?_) | omega | (simp; omega) | simp))) hfl (HF0.out.mono (by repeat (first | with_reducible exact Below.refl _ _ | with_reducible exact HB3.out | with_reducible refine Below.drew ?_ | with_reducible refine below_drewN ?_ _ | with_reducible refine Below.setCell ?_ ?_ _ | with_reducible refine Below.alloc ?_ ?_ _ | with_reducible exact HB2.out | with_reducible exact HB1.out | with_reducible refine Below.trans ?_ (Below.mono hb3 ?_) | with_reducible refine Below.trans ?_ (Below.mono hb5 ?_) | with_reducible refine Below.trans ?_ (Below.mono hb4 ?_) | omega | (simp; omega) | simp)) (by omega) fun _ _ g => g.below (by repeat (first | with_reducible exact Below.refl _ _ | with_reducible exact HB3.out | with_reducible refine Below.drew ?_ | with_reducible refine below_drewN ?_ _ | with_reducible refine Below.setCell ?_ ?_ _ | with_reducible refine Below.alloc ?_ ?_ _ | with_reducible exact HB2.out | with_reducible exact HB1.out | with_reducible refine Below.trans ?_ (Below.mono hb3 ?_) | with_reducible refine Below.trans ?_ (Below.mono hb5 ?_) | with_reducible refine Below.trans ?_ (Below.mono hb4 ?_) | omega | (simp; omega) | simp))) (HW.out.below (by repeat (first | with_reducible exact Below.refl _ _ | with_reducible exact HB3.out | with_reducible refine Below.drew ?_ | with_reducible refine below_drewN ?_ _ | with_reducible refine Below.setCell ?_ ?_ _ | with_reducible refine Below.alloc ?_ ?_ _ | with_reducible exact HB2.out | with_reducible exact HB1.out | with_reducible refine Below.trans ?_ (Below.mono hb3 ?_) | with_reducible refine Below.trans ?_ (Below.mono hb5 ?_) | with_reducible refine Below.trans ?_ (Below.mono hb4 ?_) | omega | (simp; omega) | simp))) HH.out HM.out).mono ?_
  rintro e w1 ⟨⟨p1, c1, p2, c2, rfl, S, hS, hSl⟩, hb1⟩
  rw [← HDe.out] at hS ⊢
  rw [HDl.out] at hS ⊢
  have HB1 : Hid (Below w.heap.size w w1) := Below.trans (by repeat (first | with_reducible exact Below.refl _ _ | with_reducible exact HB3.out | with_reducible refine Below.drew ?_ | with_reducible refine below_drewN ?_ _ | with_reducible refine Below.setCell ?_ ?_ _ | with_reducible refine Below.alloc ?_ ?_ _ | with_reducible exact HB2.out | with_reducible exact HB1.out | with_reducible refine Below.trans ?_ (Below.mono hb3 ?_) | with_reducible refine Below.trans ?_ (Below.mono hb5 ?_) | with_reducible refine Below.trans ?_ (Below.mono hb4 ?_) | omega | (simp; omega) | simp)) (hb1.mono (by simp))
  have hA := heap_below hb1 (k := w.heap.size) (by simp) (heap_here w _)
  have hz1 : w.heap.size < w1.heap.size := ltHeap hA
  obtain ⟨_, _, e1, a1, a2⟩ := hS.read
  simp only [List.cons.injEq, and_true] at e1
  obtain ⟨rfl, rfl⟩ := e1
  rw [HDg.out] at a1
  have HS := hidI (And.intro a1 a2)
  have HA := hidI hA
  clear hb1 hS hSl hA a1 a2
  have hzz : w1.heap.size < w1.heap.size + 1 := by omega
  go_wp2_with fail
  obtain ⟨W2, hW2⟩ : ∃ W2, W2 = (w1.alloc (.cells #[.slice p1 u.globals.length c1, .slice p2 K c2] 25)).alloc (.cells #[.int .i64 0, .int .i64 0] 28) := ⟨_, rfl⟩
  rw [← hW2]
  have hb12 : Below w1.heap.size w1 W2 := by rw [hW2]; exact ((Below.refl _ _).alloc (Nat.le_refl _) _).alloc (by simp) _
  have hzW2 : W2.heap.size = w1.heap.size + 1 + 1 := by rw [hW2]; simp
  have HV : Hid (W2.heap[w1.heap.size]? = some (.cells #[.slice p1 u.globals.length c1, .slice p2 K c2] 25 (0, 0))) := hidI (by rw [hW2]; exact heap_step (heap_at rfl))
  clear hW2
  have hbW2 : Below w.heap.size w W2 := HB1.out.trans (hb12.mono HB1.out.size)
  have hc2 := do_again D p1 p2 c1 c2 (cnt (tableU u.funcs m) m) u.globals.length K (by rw [HDg.out]) HDl.out W2 (by rw [HDg.out]; exact HS.out.1.mono hb12 (by omega) fun _ _ g => g.below hb12) (by rw [HDl.out]; exact HS.out.2.mono hb12 (by omega) fun _ _ g => g.below hb12) (HW.out.below hbW2) HD.out.2.1 HD.out.1 HD.out.2.2
  have HA2 := hidI (heap_below hb12 (k := w.heap.size) hz1 HA.out)
  have HBW2 := hidI hbW2
  have HB12 := hidI hb12
  clear hb12 hbW2
  refine hc2.mono ?_
  rintro e w3 ⟨⟨q1, d1, q2, d2, rfl, hr1, hr2⟩, hb3⟩
  have HB23 := hidI hb3
  have HR := hidI (And.intro hr1 hr2)
  have hA3 := (hb3.block w.heap.size (ltHeap HA2.out)).trans HA2.out
  have k0 : w3.cell? ⟨w.heap.size, 0, none⟩ = some (.slice gp u.globals.length gc) := (blk hA3).1 0
  have k1 : w3.cell? ⟨w.heap.size, 1, none⟩ = some (.slice fp u.funcs.length fc) := (blk hA3).1 1
  have kz := ltHeap hA3
  have kz1 : w.heap.size < w3.heap.size + 1 := by omega
  have HA3 := hidI hA3
  clear hb3 hr1 hr2 hc2 hA3
  go_wp2_with fail
  obtain ⟨W4, hW4⟩ : ∃ W4, W4 = (w3.alloc (.cells #[.slice q1 u.globals.length d1, .slice q2 K d2] 25)).alloc (.cells #[.int .i64 0, .int .i64 0] 28) := ⟨_, rfl⟩
  rw [← hW4]
  have hb34 : Below w3.heap.size w3 W4 := by rw [hW4]; exact ((Below.refl _ _).alloc (Nat.le_refl _) _).alloc (by simp) _
  have HV2 : Hid (W4.heap[w3.heap.size]? = some (.cells #[.slice q1 u.globals.length d1, .slice q2 K d2] 25 (0, 0))) := hidI (by rw [hW4]; exact heap_step (heap_at rfl))
  have HE2 : Hid (W4.heap[w3.heap.size + 1]? = some (.cells #[.int .i64 0, .int .i64 0] 28 (0, 0))) := hidI (by rw [hW4]; exact heap_at (by simp))
  clear hW4
  have hb24 : Below W2.heap.size W2 W4 := HB23.out.trans (hb34.mono HB23.out.size)
  have hbW4 : Below w.heap.size w W4 := HBW2.out.trans (hb24.mono HBW2.out.size)
  have HB34 := hidI hb34
  have HB24 := hidI hb24
  have HBW4 := hidI hbW4
  clear hb34 hb24 hbW4
  refine (rc_ok u gp fp gc fc m W4 hgl (glosMono HG.out HBW4.out) hfl (funsMono HF.out HBW4.out) (HW.out.below HBW4.out) HH.out HM.out).mono ?_
  rintro e w5 ⟨T, rfl, hT5, hb5⟩
  have HB5 := hidI hb5
  have HT5 := hidI hT5
  have hV5 := (hb5.block w1.heap.size (by have := HB24.out.size; omega)).trans ((HB24.out.block w1.heap.size (by omega)).trans HV.out)
  have hV25 := (hb5.block w3.heap.size (ltHeap HV2.out)).trans HV2.out
  have hE25 := (hb5.block (w3.heap.size + 1) (ltHeap HE2.out)).trans HE2.out
  have hA5 := (hb5.block w.heap.size (by have := HB34.out.size; omega)).trans ((HB34.out.block w.heap.size (ltHeap HA3.out)).trans HA3.out)
  have v0 : w5.cell? ⟨w1.heap.size, 0, none⟩ = some (.slice p1 u.globals.length c1) := (blk hV5).1 0
  have v1 : w5.cell? ⟨w1.heap.size, 1, none⟩ = some (.slice p2 K c2) := (blk hV5).1 1
  have x0 : w5.cell? ⟨w3.heap.size, 0, none⟩ = some (.slice q1 u.globals.length d1) := (blk hV25).1 0
  have x1 : w5.cell? ⟨w3.heap.size, 1, none⟩ = some (.slice q2 K d2) := (blk hV25).1 1
  have f0 : w5.cell? ⟨w3.heap.size + 1, 0, none⟩ = some (.int .i64 0) := (blk hE25).1 0
  have u1 : w5.cell? ⟨w.heap.size, 1, none⟩ = some (.slice fp u.funcs.length fc) := (blk hA5).1 1
  have z1 := ltHeap hV5
  have z2 := ltHeap hV25
  have z3 := ltHeap hE25
  have z4 := ltHeap hA5
  have z5 : w1.heap.size < w5.heap.size + 1 := by omega
  have z6 : w3.heap.size < w5.heap.size + 1 := by omega
  have z7 : w3.heap.size + 1 < w5.heap.size + 1 := by omega
  have z8 : w.heap.size < w5.heap.size + 1 := by omega
  have HV5 := hidI hV5
  have n0 : ((K : Int) == 0) = false := by simp; omega
  have n1 : ((u.funcs.length : Int) != u.funcs.length) = false := by simp
  have hb2w5 : Below W2.heap.size W2 w5 := HB24.out.trans (hb5.mono HB24.out.size)
  have hb3w5 : Below w3.heap.size w3 w5 := HB34.out.trans (hb5.mono HB34.out.size)
  have hbw5 : Below w.heap.size w w5 := HBW4.out.trans (hb5.mono HBW4.out.size)
  have hb1w5 : Below w1.heap.size w1 w5 := HB12.out.trans (hb2w5.mono HB12.out.size)
  have HBa := hidI (And.intro hb1w5 (And.intro hb3w5 hbw5))
  clear hb5 hT5 hV5 hV25 hE25 hA5 k0 k1 hb2w5 hb3w5 hbw5 hb1w5
  obtain ⟨W5, hW5⟩ : ∃ W5, W5 = w5.alloc (.cells #[.int .i64 0, .int .i64 0] 28) := ⟨_, rfl⟩
  have hb55 : Below w5.heap.size w5 W5 := by rw [hW5]; exact (Below.refl _ _).alloc (Nat.le_refl _) _
  have h15 : Below w1.heap.size w1 W5 := HBa.out.1.trans (hb55.mono HBa.out.1.size)
  have h35 : Below w3.heap.size w3 W5 := HBa.out.2.1.trans (hb55.mono HBa.out.2.1.size)
  have hu := units_sameD D p1 p2 q1 q2 c1 c2 d1 d2 u.globals.length K (by rw [HDg.out]) HDl.out W5 (by rw [HDg.out]; exact HS.out.1.mono h15 (by omega) fun _ _ g => g.below h15) (by rw [HDl.out]; exact HS.out.2.mono h15 (by omega) fun _ _ g => g.below h15) (HR.out.1.mono h35 (by omega) fun _ _ g => g.below h35) (HR.out.2.mono h35 (by omega) fun _ _ g => g.below h35)
  rw [hW5] at hu
  have HU := hidI hu
  have H5 := hidI (hb55)
  rw [hW5] at H5
  clear hW5 hb55 h15 h35 hu
  go_wp2_with (go_at_call 16; refine HU.out.mono ?_; rintro e w6 ⟨rfl, hb6⟩; have HB56 : Hid (Below w5.heap.size w5 w6) := hidI (H5.out.trans (hb6.mono H5.out.size)); have u16 : w6.cell? ⟨w.heap.size, 1, none⟩ = some (.slice fp u.funcs.length fc) := (HB56.out.cell (p := ⟨w.heap.size, 1, none⟩) z4).trans u1; clear hb6)
  clear v0 v1 x0 x1 f0 u1 n0 n1
  go_loopw [9, 10] (fun i9 i10 wr => ∃ k : Nat, k ≤ u.funcs.length ∧ i10 = .int .i64 k ∧ i9 = .int .i64 (cnt (tableU u.funcs m) k) ∧ Below w6.heap.size w6 wr) (fun _ i10 _ => u.funcs.length - (intOf i10).toNat)
  case atStart => exact ⟨0, by omega, rfl, rfl, Below.refl _ _⟩
  case round =>
    obtain ⟨k, hk, rfl, rfl, hb⟩ := hrel
    have hb5r : Below w5.heap.size w5 wr := HB56.out.trans (hb.mono HB56.out.size)
    have HBr := hidI hb
    have HB5r := hidI hb5r
    have hbwr : Below w.heap.size w wr := HBa.out.2.2.trans (hb5r.mono HBa.out.2.2.size)
    have HBwr := hidI hbwr
    have hVr := (hb5r.block w1.heap.size z1).trans HV5.out
    have v1 : wr.cell? ⟨w1.heap.size, 1, none⟩ = some (.slice p2 K c2) := (blk hVr).1 1
    have y1 := ltHeap hVr
    have u1 : wr.cell? ⟨w.heap.size, 1, none⟩ = some (.slice fp u.funcs.length fc) := (hb.cell (p := ⟨w.heap.size, 1, none⟩) (lt_of_cell u16)).trans u16
    have y2 := lt_of_cell u1
    have y3 : w6.heap.size ≤ wr.heap.size := hb.size
    clear hb hb5r hVr hbwr
    have g1 : (0 : Int) ≤ (k : Int) := by omega
    by_cases hlt : k < u.funcs.length
    · obtain ⟨bT, oT, hpT, hcT⟩ := boolGet HT5.out HB5r.out (i := k) (by simp [reachL]; exact hlt)
      cases hpT
      have hbT : (reachL u.funcs m)[k]'(by simp [reachL]; exact hlt) = tableU u.funcs m k := by simp [reachL]
      rw [hbT, Nat.zero_add] at hcT
      have g2 : (k : Int) < u.funcs.length := by omega
      cases hhad : tableU u.funcs m k
      · rw [hhad] at hcT
        have hc1 : cnt (tableU u.funcs m) (k + 1) = cnt (tableU u.funcs m) k := by rw [cnt, hhad]; simp
        have HC1 := hidI hc1
        clear hc1
        go_wp2_with fail
        exact ⟨⟨k + 1, by omega, by go_num, by rw [HC1.out], HBr.out⟩, by simp [intOf]; omega⟩
      · rw [hhad] at hcT
        have hc1 : cnt (tableU u.funcs m) (k + 1) = cnt (tableU u.funcs m) k + 1 := by rw [cnt, hhad]; simp
        have HC1 := hidI hc1
        obtain ⟨hcl, hnm⟩ := HNm.out k hlt hhad
        rw [HDl.out] at hcl
        have hS2 : SliceAt w1 4 (FunR w1) p2 D.funcs := by
          obtain ⟨_, _, e, _, _, h⟩ := HS.out.2.outC
          cases e
          exact h
        have hb1r : Below w1.heap.size w1 wr := HBa.out.1.trans (HB5r.out.mono HBa.out.1.size)
        obtain ⟨bp, op, qa, ca, hp, e0, -⟩ := funGet hS2 hb1r (i := cnt (tableU u.funcs m) k) (by rw [HDl.out]; exact hcl)
        obtain ⟨bq, oq, qb, cb, hq, f0, -⟩ := funGet HF.out HBwr.out hlt
        rw [hnm] at e0
        subst hp hq
        have HC2 := hidI hcl
        clear hS2 hb1r hc1 hcl hnm
        have q1 : ((cnt (tableU u.funcs m) k : Int) ≥ (K : Int)) = False := by simp; exact HC2.out
        have q2 : (0 : Int) ≤ (cnt (tableU u.funcs m) k : Int) := by omega
        have q3 : (cnt (tableU u.funcs m) k : Int) < (K : Int) := by have := HC2.out; omega
        have q4 : decide ((K : Int) ≤ (cnt (tableU u.funcs m) k : Int)) = false := by simp; exact HC2.out
        have z9 := lt_of_cell e0
        have z10 := lt_of_cell f0
        go_wp2_with fail
        go_quiet (fail)
        go_wp2_with fail
        exact ⟨⟨k + 1, by omega, by go_num, by rw [HC1.out]; rfl, below_drewN HBr.out _⟩, by simp [intOf]; omega⟩
    · obtain rfl : k = u.funcs.length := by omega
      have hkk : ((cnt (tableU u.funcs m) u.funcs.length : Int) == (K : Int)) = true := by rw [HK.out]; simp
      go_wp2_with fail
      go_ret
      exact ⟨rfl, HBwr.out⟩
theorem crest_all (u : UniL) (gp fp : Option Addr) (gc fc : Nat) (w : World) (hG0 : SlF w 3 48 (GloR w) (.slice gp u.globals.length gc) u.globals) (hF0 : SlF w 4 56 (FunR w) (.slice fp u.funcs.length fc) u.funcs) (hw0 : Ways w) :
    Calls Tryd.prog 6 #[.agg #[.slice gp u.globals.length gc, .slice fp u.funcs.length fc]] w fun e w' => e = .returned (.bool true) ∧ Below w.heap.size w w' := by
  by_cases h : (chk u).1 = 0
  · obtain ⟨m, hm, _⟩ := (chk_ok h).2.main
    exact crest_ok u gp fp gc fc m w hG0 hF0 hw0 h hm
  · exact crest_bad u gp fp gc fc w hG0 hF0 hw0 h
end Go.Proofs.YtdjamkinijhjoaaDoor
