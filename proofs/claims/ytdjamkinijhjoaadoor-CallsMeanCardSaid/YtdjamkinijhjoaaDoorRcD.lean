/-
  The contract of turneryref5.CallsDone.
-/
import Derived.Test.YtdjamkinijhjoaaDoorRcC
import Derived.Test.YtdjamkinijhjoaaDoorBCdo
import Derived.Test.YtdjamkinijhjoaaDoorCalT
import Derived.WalkKit
import Derived.WalkSpells
import Derived.WalkLawsBesides
namespace Go.Proofs.YtdjamkinijhjoaaDoor
open Go.RowKit Go.Shelf

theorem or3r {p q r g : Prop} (h : p ∨ q ∨ r) (a : p → g) (b : q → g) (c : r → g) : g := h.elim a fun h => h.elim b c

set_option maxRecDepth 100000 in
set_option maxHeartbeats 4000000 in
theorem done_any (u : UniL) (gp fp : Option Addr) (gc fc m : Nat) (w : World) (hok : ChkOk u) (hG : SlF w 3 48 (GloR w) (.slice gp u.globals.length gc) u.globals) (hF : SlF w 4 56 (FunR w) (.slice fp u.funcs.length fc) u.funcs) (hm : mainI u.funcs = some m) :
    Calls Tryd.prog 17 #[.agg #[.slice gp u.globals.length gc, .slice fp u.funcs.length fc]] w fun e w' => (∃ p1 c1 p2 c2, e = .returned (.agg #[.slice p1 u.globals.length c1, .slice p2 (doneU (tableU u.funcs m) u).funcs.length c2]) ∧
      ∃ S, UniO w' [.slice p1 u.globals.length c1, .slice p2 (doneU (tableU u.funcs m) u).funcs.length c2] (doneU (tableU u.funcs m) u) S ∧ LoB w.heap.size S) ∧ Below w.heap.size w w' := by
  have hnf := hok.nf
  have hml := mainI_lt hm
  have hF' : SliceAt w 4 (FunR w) fp u.funcs := by obtain ⟨_, _, e, _, _, h⟩ := hF.outC; cases e; exact h
  have HG := hidI hG
  have HF := hidI hF
  have HF' := hidI hF'
  have HOK := hidI hok
  have HM := hidI hm
  clear hG hF hF' hok hm
  obtain ⟨iF, l1, l2, l3, l4⟩ := info_parts infoFunC
  obtain ⟨i3, m1, m2, m3, m4⟩ := info_parts infoInt3
  have hmk := run_make_row 46 3 i3 (.int .i64 0) underInts3 m1 m2 m3 rfl .i64 .i64 u.funcs.length (by rw [m4]; omega) (by omega)
  go_enter Tryd.func17, Tryd.ntmps17
  go_wp2_with fail
  refine (cloneU_any u gp fp gc fc _ (HG.out.mono (by repeat (first | with_reducible exact Below.refl _ _ | with_reducible exact HB3.out | with_reducible refine Below.drew ?_ | with_reducible refine below_drewN ?_ _ | with_reducible refine Below.setCell ?_ ?_ _ | with_reducible refine Below.alloc ?_ ?_ _ | with_reducible exact HB2.out | with_reducible exact HB1.out | with_reducible refine Below.trans ?_ (Below.mono hb3 ?_) | with_reducible refine Below.trans ?_ (Below.mono hb5 ?_) | with_reducible refine Below.trans ?_ (Below.mono hb4 ?_) | omega | (simp; omega) | simp)) (by omega) fun _ _ g => g.below (by repeat (first | with_reducible exact Below.refl _ _ | with_reducible exact HB3.out | with_reducible refine Below.drew ?_ | with_reducible refine below_drewN ?_ _ | with_reducible refine Below.setCell ?_ ?_ _ | with_reducible refine Below.alloc ?_ ?_ _ | with_reducible exact HB2.out | with_reducible exact HB1.out | with_reducible refine Below.trans ?_ (Below.mono hb3 ?_) | with_reducible refine Below.trans ?_ (Below.mono hb5 ?_) | with_reducible refine Below.trans ?_ (Below.mono hb4 ?_) | omega | (simp; omega) | simp))) (HF.out.mono (by repeat (first | with_reducible exact Below.refl _ _ | with_reducible exact HB3.out | with_reducible refine Below.drew ?_ | with_reducible refine below_drewN ?_ _ | with_reducible refine Below.setCell ?_ ?_ _ | with_reducible refine Below.alloc ?_ ?_ _ | with_reducible exact HB2.out | with_reducible exact HB1.out | with_reducible refine Below.trans ?_ (Below.mono hb3 ?_) | with_reducible refine Below.trans ?_ (Below.mono hb5 ?_) | with_reducible refine Below.trans ?_ (Below.mono hb4 ?_) | omega | (simp; omega) | simp)) (by omega) fun _ _ g => g.below (by repeat (first | with_reducible exact Below.refl _ _ | with_reducible exact HB3.out | with_reducible refine Below.drew ?_ | with_reducible refine below_drewN ?_ _ | with_reducible refine Below.setCell ?_ ?_ _ | with_reducible refine Below.alloc ?_ ?_ _ | with_reducible exact HB2.out | with_reducible exact HB1.out | with_reducible refine Below.trans ?_ (Below.mono hb3 ?_) | with_reducible refine Below.trans ?_ (Below.mono hb5 ?_) | with_reducible refine Below.trans ?_ (Below.mono hb4 ?_) | omega | (simp; omega) | simp)))).mono ?_
  rintro e w2 ⟨⟨p1, c1, p2, c2, rfl, S, hS, hSl⟩, hb2⟩
  have hB2 : Below w.heap.size w w2 := Below.trans (by repeat (first | with_reducible exact Below.refl _ _ | with_reducible exact HB3.out | with_reducible refine Below.drew ?_ | with_reducible refine below_drewN ?_ _ | with_reducible refine Below.setCell ?_ ?_ _ | with_reducible refine Below.alloc ?_ ?_ _ | with_reducible exact HB2.out | with_reducible exact HB1.out | with_reducible refine Below.trans ?_ (Below.mono hb3 ?_) | with_reducible refine Below.trans ?_ (Below.mono hb5 ?_) | with_reducible refine Below.trans ?_ (Below.mono hb4 ?_) | omega | (simp; omega) | simp)) (hb2.mono (by simp; omega))
  have hA2 := heap_below hb2 (k := w.heap.size) (by simp; omega) (heap_step (heap_at (w := w) (o := .cells #[.slice gp u.globals.length gc, .slice fp u.funcs.length fc] 25) rfl))
  have hZ2 := heap_below hb2 (k := w.heap.size + 1) (by simp) (heap_at (w := w.alloc (.cells #[.slice gp u.globals.length gc, .slice fp u.funcs.length fc] 25)) (o := .cells #[.slice none 0 0, .slice none 0 0] 25) (by simp))
  have hz2 : w.heap.size + 1 + 1 ≤ w2.heap.size := by have := hb2.size; simpa using this
  have HS := hidI hS
  have HSl := hidI (show ∀ k, S k → w.heap.size + 1 + 1 ≤ k from fun k hk => by have := hSl k hk; simpa using this)
  have HB2 := hidI hB2
  have HA2 := hidI hA2
  have HZ2 := hidI hZ2
  clear hS hSl hb2 hB2 hA2 hZ2
  go_wp2_with fail
  obtain ⟨W2, hW2⟩ : ∃ W2, W2 = w2.alloc (.cells #[.slice p1 u.globals.length c1, .slice p2 u.funcs.length c2] 25) := ⟨_, rfl⟩
  rw [← hW2]
  have hzW : W2.heap.size = w2.heap.size + 1 := by rw [hW2]; simp
  have HBW : Hid (Below w2.heap.size w2 W2) := hidI (by rw [hW2]; repeat (first | with_reducible exact Below.refl _ _ | with_reducible exact HB3.out | with_reducible refine Below.drew ?_ | with_reducible refine below_drewN ?_ _ | with_reducible refine Below.setCell ?_ ?_ _ | with_reducible refine Below.alloc ?_ ?_ _ | with_reducible exact HB2.out | with_reducible exact HB1.out | with_reducible refine Below.trans ?_ (Below.mono hb3 ?_) | with_reducible refine Below.trans ?_ (Below.mono hb5 ?_) | with_reducible refine Below.trans ?_ (Below.mono hb4 ?_) | omega | (simp; omega) | simp))
  have HC : Hid (W2.heap[w2.heap.size]? = some (.cells #[.slice p1 u.globals.length c1, .slice p2 u.funcs.length c2] 25 (0, 0))) := hidI (by rw [hW2]; exact heap_at rfl)
  clear hW2
  have HBw2 : Hid (Below w.heap.size w W2) := HB2.out.trans (HBW.out.mono (by omega))
  have hAW := (HBW.out.block w.heap.size (by omega)).trans HA2.out
  have HAW := hidI hAW
  clear hAW
  -- the row of who is reached
  have hAll : ∀ w', Below W2.heap.size W2 w' → w'.cell? ⟨w.heap.size, 0, none⟩ = some (.slice gp u.globals.length gc) ∧ w'.cell? ⟨w.heap.size, 1, none⟩ = some (.slice fp u.funcs.length fc) ∧ SliceAt w' 4 (FunR w') fp u.funcs ∧ w.heap.size < w'.heap.size := fun w' h => by
    have h1 := (h.block w.heap.size (by omega)).trans HAW.out
    exact ⟨(blk h1).1 0, (blk h1).1 1, funsMono HF'.out (HBw2.out.trans (h.mono (by omega))), ltHeap h1⟩
  have HAll := hidI hAll
  clear hAll
  obtain ⟨s1, s2, s3, s4⟩ := HAll.out W2 (Below.refl _ _)
  refine wp_region_calm (S := fun w' => Below W2.heap.size W2 w') (by kernel_rfl) 6 ?_
  refine takeZ 0 14 (.agg #[.slice gp u.globals.length gc, .slice fp u.funcs.length fc]) rfl rfl (by kernel_rfl) (by kernel_rfl) (by kernel_rfl) (by kernel_rfl) (fun _ _ _ h => h) (Or.inl ⟨by rfl, fun w' h => ?_⟩) (Below.refl _ W2).drew ?_
  · obtain ⟨t1, t2, t3, t4⟩ := HAll.out w' h
    go_simp
  refine takeZ 2 16 (.agg #[.slice gp u.globals.length gc, .slice fp u.funcs.length fc]) rfl rfl (by kernel_rfl) (by kernel_rfl) (by kernel_rfl) (by kernel_rfl) (fun _ _ _ h => h) (Or.inl ⟨by rfl, fun w' h => ?_⟩) (Below.refl _ W2).drew ?_
  · obtain ⟨t1, t2, t3, t4⟩ := HAll.out w' h
    go_simp
  refine stepZ_1 (i := 1) (by kernel_rfl) (stepZ_callTo 15 rfl rfl rfl (by go_simp) (table_any u.funcs gp fp u.globals.length gc fc W2.drew hnf (HAll.out _ (Below.refl _ W2).drew).2.2.1) ?_)
  rintro e w6 ⟨⟨p6, c6, g6, rfl, hT6⟩, hb6⟩
  have hN6 : Below W2.heap.size W2 w6 := (Below.refl _ W2).drew.trans hb6
  refine ⟨_, rfl, hN6, ?_⟩
  refine stepZ_1 (i := 3) (by kernel_rfl) (stepZ_callTo 17 rfl rfl rfl (by go_simp) (mainOf_at u.funcs gp fp u.globals.length gc fc m w6 (by omega) (HAll.out _ hN6).2.2.1 HM.out) ?_)
  rintro e w7 ⟨rfl, hb7⟩
  have hN7 : Below W2.heap.size W2 w7 := hN6.trans (hb7.mono hN6.size)
  refine ⟨_, rfl, hN7, ?_⟩
  have hT7 := hT6.below hb7
  obtain ⟨q7, rfl, hc7⟩ := hT7.cell hml
  have hq7 := lt_of_cell hc7
  have g0 : (0 : Int) ≤ (m : Int) := by omega
  have g1 : (m : Int) < u.funcs.length := by omega
  refine stepZ_1 (i := 4) (by kernel_rfl) (stepZ_to 18 (.pointer (some ⟨q7, m, none⟩)) w7 rfl rfl rfl (by go_simp) hN7 ?_)
  refine stepZ_1 (i := 5) (by kernel_rfl) (stepZ_to 19 (.slice (some ⟨g6 m, 0, none⟩) u.funcs.length u.funcs.length) w7 rfl rfl rfl (by go_simp) hN7 ?_)
  refine stepZ_1 (i := 6) (by kernel_rfl) (stepZ_to 4 (.slice (some ⟨g6 m, 0, none⟩) u.funcs.length u.funcs.length) w7 rfl rfl rfl (by go_simp) hN7 (wpAnyZ_done (by kernel_rfl) ?_ _))
  simp only [calm]
  have hc7A := hN7.block w.heap.size (by have := HBW.out.size; omega)
  have hA7 := (hN7.block w.heap.size (by omega)).trans HAW.out
  have hC7 := (hN7.block w2.heap.size (by omega)).trans HC.out
  have a1 : w7.cell? ⟨w.heap.size, 1, none⟩ = some (.slice fp u.funcs.length fc) := (blk hA7).1 1
  have az := ltHeap hA7
  have c0 : w7.cell? ⟨w2.heap.size, 0, none⟩ = some (.slice p1 u.globals.length c1) := (blk hC7).1 0
  have cz := ltHeap hC7
  have HN7 := hidI hN7
  have HT7 := hidI hT7
  have HA7 := hidI hA7
  have HC7 := hidI hC7
  clear hN7 hT7 hA7 hC7 hN6 hT6 hb6 hb7 hc7 hq7 s1 s2 s3 s4
  go_wp2_with fail
  obtain ⟨v1, v2, S1, S2, hv, hSG, ⟨⟨cs, Tj, hSF⟩, hbF⟩, hS12, hS1, hS2⟩ := HS.out
  cases hv
  obtain ⟨W8, hW8⟩ : ∃ W8, W8 = (w7.alloc (.cells (madeCells #[.int .i64 0] u.funcs.length) 3)).alloc (.cells #[.slice p1 u.globals.length c1, .slice none 0 0] 25) := ⟨_, rfl⟩
  rw [← hW8]
  have hz8 : W8.heap.size = w7.heap.size + 1 + 1 := by rw [hW8]; simp
  have HB78 : Hid (Below w7.heap.size w7 W8) := hidI (by rw [hW8]; repeat (first | with_reducible exact Below.refl _ _ | with_reducible exact HB3.out | with_reducible refine Below.drew ?_ | with_reducible refine below_drewN ?_ _ | with_reducible refine Below.setCell ?_ ?_ _ | with_reducible refine Below.alloc ?_ ?_ _ | with_reducible exact HB2.out | with_reducible exact HB1.out | with_reducible refine Below.trans ?_ (Below.mono hb3 ?_) | with_reducible refine Below.trans ?_ (Below.mono hb5 ?_) | with_reducible refine Below.trans ?_ (Below.mono hb4 ?_) | omega | (simp; omega) | simp))
  have HO : Hid (W8.heap[w7.heap.size + 1]? = some (.cells #[.slice p1 u.globals.length c1, .slice none 0 0] 25 (0, 0))) := hidI (by rw [hW8]; exact heap_at (by simp))
  have HMr : Hid (W8.rowIs (w7.heap.size) 3 u.funcs.length fun j => .int .i64 (atD (tableU u.funcs m) 0 j)) := by
    have h1 := World.rowIs_made w7 (.int .i64 0) u.funcs.length 3
    refine (h1.of_block (w' := W8) ?_).congr fun j _ => by rw [atD_zero]
    rw [hW8]
    exact Below.heap_alloc _ _ _ (by simp)
  clear hW8
  have HC8 := hidI ((HB78.out.block w2.heap.size (ltHeap HC7.out)).trans HC7.out)
  have hz72 : W2.heap.size ≤ w7.heap.size := HN7.out.size
  have HT8 := hidI ((HT7.out.row m hml).of_block (w' := W8) (HB78.out.block _ (HT7.out.row m hml).lt))
  have hgh : g6 m < w7.heap.size := (HT7.out.row m hml).lt
  have hgl : W2.heap.size < g6 m := by have := HT7.out.low m hml; have e : W2.drew.heap.size = W2.heap.size := rfl; omega
  have HB28 : Hid (Below w2.heap.size w2 W8) := hidI ((HBW.out.trans (HN7.out.mono (by omega))).trans (HB78.out.mono (by omega)))
  have HSG := hidI hSG
  have HSF := hidI (And.intro hSF hbF)
  have HSS := hidI (And.intro hS12 (And.intro hS1 hS2))
  clear HG HF HF' hSG hSF hbF hS12 hS1 hS2 HS hmk a1 az c0 cz hc7A
  go_loopw [7] (fun i wr => ∃ (k : Nat) (v : Value), k ≤ u.funcs.length ∧ i = .int .i64 k ∧ (∃ So, SlO 37 4 FunO wr v (keepTo (tableU u.funcs m) u.funcs k) So ∧ (∀ b, So b → (∃ j, j < k ∧ Tj j b) ∨ W8.heap.size ≤ b)) ∧ wr.heap[w7.heap.size + 1]? = some (.cells #[.slice p1 u.globals.length c1, v] 25 (0, 0)) ∧
    (wr.rowIs (w7.heap.size) 3 u.funcs.length fun j => .int .i64 (atD (tableU u.funcs m) k j)) ∧ Kept (fun b => b = w7.heap.size + 1 ∨ b = w7.heap.size ∨ ∃ j, j < k ∧ Tj j b) W8 wr) (fun i _ => u.funcs.length - (intOf i).toNat)
  case atStart => exact ⟨0, .slice none 0 0, by omega, rfl, ⟨fun _ => False, SlO.nil _ _ _ _ (fun _ h => h.elim), fun _ h => h.elim⟩, HO.out, HMr.out, Kept.refl _ _⟩
  case round =>
    obtain ⟨k, v, hk, rfl, ⟨So, hSo, hSob⟩, hOb, hRow, hK⟩ := hrel
    obtain ⟨po, co, hv, hvz, hvc⟩ := hSo.val
    rw [keepTo_len _ _ _ hk] at hv hvz hvc
    subst hv
    have HSo := hidI hSo
    have HSob := hidI hSob
    have HOb := hidI hOb
    have HRow := hidI hRow
    have HK := hidI hK
    have hsz := hK.size
    clear hSo hSob hOb hRow hK
    have hcnt := cnt_le (tableU u.funcs m) k
    have hTl : ∀ j, j < u.funcs.length → ∀ i, Tj j i → w.heap.size + 1 + 1 ≤ i ∧ i < w2.heap.size := fun j hj i h => ⟨HSl.out _ (HSS.out.2.2 _ (HSF.out.1.sub j hj i h)), HSF.out.1.inb i (HSF.out.1.sub j hj i h)⟩
    have HTl := hidI hTl
    clear hTl
    have ob1 : wr.cell? ⟨w7.heap.size + 1, 1, none⟩ = some (.slice po (cnt (tableU u.funcs m) k) co) := (blk HOb.out).1 1
    have obz := ltHeap HOb.out
    have hKn : ∀ b, b < W8.heap.size → w2.heap.size ≤ b → b ≠ w7.heap.size + 1 → b ≠ w7.heap.size → wr.heap[b]? = W8.heap[b]? := fun b h1 h2 h3 h4 => HK.out.block b h1 fun h => or3r h h3 h4 fun ⟨j, h5, h6⟩ => by
      have := (HTl.out j (by omega) b h6).2
      omega
    have HKn := hidI hKn
    clear hKn
    have hCr := (HKn.out w2.heap.size (by omega) (by omega) (by omega) (by omega)).trans HC8.out
    have HCr := hidI hCr
    have hhr := HT8.out.of_block (HKn.out (g6 m) (by omega) (by omega) (by omega) (by omega))
    clear hCr
    have hghr : g6 m < wr.heap.size := by omega
    have g1 : (0 : Int) ≤ (k : Int) := by omega
    by_cases hlt : k < u.funcs.length
    · have hcT := hhr.cell hlt
      have g2 : (k : Int) < u.funcs.length := by omega
      clear hhr
      cases hhad : tableU u.funcs m k
      · rw [hhad] at hcT
        go_wp2_with fail
        exact ⟨⟨k + 1, .slice po (cnt (tableU u.funcs m) k) co, by omega, by go_num, ⟨So, by rw [keepTo_succ_no hhad]; exact HSo.out, fun b hb => (HSob.out b hb).elim (fun ⟨j, h1, h2⟩ => .inl ⟨j, by omega, h2⟩) .inr⟩, HOb.out, HRow.out.congr fun j _ => by rw [atD_no hhad], HK.out.mono fun b _ h => or3r h (fun h => .inl h) (fun h => .inr (.inl h)) (fun ⟨j, h1, h2⟩ => .inr (.inr ⟨j, by omega, h2⟩))⟩, by simp [intOf]; omega⟩
      · rw [hhad] at hcT
        obtain ⟨g, cc, hvg, hgS, hgz, hcells⟩ := HSF.out.1.cell hlt
        cases hvg
        obtain ⟨vb, hcs, hnm, ii1, ii2, hB⟩ := HSF.out.1.el k hlt
        obtain ⟨pb, cb, rfl, _⟩ := hB.sl.val
        have hgS2 := HSl.out _ (HSS.out.2.2 _ hgS)
        have hg : wr.heap[g]? = w2.heap[g]? := (HK.out.block g (by omega) (fun h => or3r h (fun h => by omega) (fun h => by omega) (fun ⟨j, h1, h2⟩ => HSF.out.1.off j (by omega) g rfl h2))).trans (HB28.out.block g hgz)
        have HGC : Hid (∀ j, j < 4 → w2.cell? ⟨g, k * 4 + j, none⟩ = [.string u.funcs[k].name, .int .i64 u.funcs[k].params, .int .i64 u.funcs[k].regs, .slice pb u.funcs[k].blocks.length cb][j]?) := hidI fun j hj => by rw [hcells j hj, hcs]
        have HHg := hidI hg
        clear hg hcells
        have hMk := HRow.out.cell hlt
        have hMf := HRow.out.frozen
        have hMlt : w7.heap.size < wr.heap.size := by omega
        have hgwr : g < wr.heap.size := by omega
        have HNm := hidI (And.intro hnm (And.intro ii1 ii2))
        have HCS := hidI hcs
        clear hnm ii1 ii2 hB hcs
        go_wp2_with fail
        obtain ⟨w9, hw9⟩ : ∃ w9, w9 = wr.setCell ⟨w7.heap.size, k, none⟩ (.int .i64 (cnt (tableU u.funcs m) k)) := ⟨_, rfl⟩
        rw [← hw9]
        have hz9 : w9.heap.size = wr.heap.size := by rw [hw9, Go.Deep.nblk_setCell]
        have hb9 : ∀ b, b ≠ w7.heap.size → w9.heap[b]? = wr.heap[b]? := fun b h2 => by rw [hw9]; exact Go.Deep.blk_setCell_other _ ⟨w7.heap.size, k, none⟩ _ b h2
        have HRow9 : Hid (w9.rowIs (w7.heap.size) 3 u.funcs.length fun j => .int .i64 (atD (tableU u.funcs m) (k + 1) j)) := by
          rw [hw9]
          exact (HRow.out.set k _).congr fun j _ => by
            rw [← atD_yes hhad j]
            split <;> rfl
        have hK9 : Kept (fun b => b = w7.heap.size + 1 ∨ b = w7.heap.size ∨ ∃ j, j < k + 1 ∧ Tj j b) W8 w9 := (HK.out.mono fun b _ h => or3r h (fun h => .inl h) (fun h => .inr (.inl h)) (fun ⟨j, h1, h2⟩ => .inr (.inr ⟨j, by omega, h2⟩))).trans (S' := fun b => b = w7.heap.size) ⟨by rw [hw9]; rfl, by rw [hw9]; rfl, by rw [hw9]; rfl, by omega, fun b h1 h2 => hb9 b h2⟩ (fun _ _ h => .inr (.inl h))
        have HB9 := hidI hb9
        have HK9 := hidI hK9
        clear hb9 hK9 hw9
        obtain ⟨Sp, hSp⟩ : ∃ Sp : World → Prop, Sp = fun w' => w'.heap[w7.heap.size + 1]? = some (.cells #[.slice p1 u.globals.length c1, .slice po (cnt (tableU u.funcs m) k) co] 25 (0, 0)) ∧ w'.heap[w2.heap.size]? = some (.cells #[.slice p1 u.globals.length c1, .slice (some ⟨g, 0, none⟩) u.funcs.length c2] 25 (0, 0)) ∧ w'.heap[g]? = w2.heap[g]? := ⟨_, rfl⟩
        have hSp' : ∀ w', Sp w' → (w'.cell? ⟨w7.heap.size + 1, 1, none⟩ = some (.slice po (cnt (tableU u.funcs m) k) co)) ∧ w'.cell? ⟨w2.heap.size, 1, none⟩ = some (.slice (some ⟨g, 0, none⟩) u.funcs.length c2) ∧ (∀ j, j < 4 → w'.cell? ⟨g, k * 4 + j, none⟩ = [.string u.funcs[k].name, .int .i64 u.funcs[k].params, .int .i64 u.funcs[k].regs, .slice pb u.funcs[k].blocks.length cb][j]?) ∧ w7.heap.size + 1 < w'.heap.size ∧ w2.heap.size < w'.heap.size ∧ (∀ o, w'.frozen? ⟨w7.heap.size + 1, o, none⟩ = false) ∧ g < w'.heap.size := fun w' h => by
          rw [hSp] at h
          exact ⟨(blk h.1).1 1, (blk h.2.1).1 1, fun j hj => (World.cell?_of_block (a := ⟨g, _, none⟩) h.2.2).trans (HGC.out j hj), ltHeap h.1, ltHeap h.2.1, (blk h.1).2, by have := ltHeap h.2.1; omega⟩
        have hSk : ∀ {U : Blks} {x y : World}, Sp x → Kept U x y → ¬ U (w7.heap.size + 1) → ¬ U w2.heap.size → ¬ U g → Sp y := fun {U x y} h hk n1 n2 n3 => by
          rw [hSp] at h ⊢
          exact ⟨(hk.block _ (ltHeap h.1) n1).trans h.1, (hk.block _ (ltHeap h.2.1) n2).trans h.2.1, (hk.block _ (by have := ltHeap h.2.1; omega) n3).trans h.2.2⟩
        have hS1' : Sp w9 := by
          rw [hSp]
          exact ⟨(HB9.out _ (by omega)).trans HOb.out, (HB9.out _ (by omega)).trans HCr.out, (HB9.out g (by omega)).trans HHg.out⟩
        have hS1 : Sp w9.drew := hSk hS1' (Kept.refl (fun _ => False) _).drew (fun h => h) (fun h => h) (fun h => h)
        refine wp_region_calm (S := Sp) (by kernel_rfl) 10 ?_
        refine takeZ 0 43 (.pointer (some ⟨w7.heap.size + 1, 1, none⟩)) rfl rfl (by kernel_rfl) (by kernel_rfl) (by kernel_rfl) (by kernel_rfl) (fun _ _ _ h => h) (Or.inl ⟨by rfl, fun w' h => ?_⟩) hS1 ?_
        · obtain ⟨h1, h2, h3, h4, h5, h6, h7⟩ := hSp' w' h
          go_simp
        refine takeZ 1 44 (.slice po (cnt (tableU u.funcs m) k) co) rfl rfl (by kernel_rfl) (by kernel_rfl) (by kernel_rfl) (by kernel_rfl) (fun _ _ _ h => h) (Or.inl ⟨by rfl, fun w' h => ?_⟩) hS1 ?_
        · obtain ⟨h1, h2, h3, h4, h5, h6, h7⟩ := hSp' w' h
          go_simp
        refine takeZ 2 45 (.pointer (some ⟨w2.heap.size, 1, none⟩)) rfl rfl (by kernel_rfl) (by kernel_rfl) (by kernel_rfl) (by kernel_rfl) (fun _ _ _ h => h) (Or.inl ⟨by rfl, fun w' h => ?_⟩) hS1 ?_
        · obtain ⟨h1, h2, h3, h4, h5, h6, h7⟩ := hSp' w' h
          go_simp
        refine takeZ 3 46 (.slice (some ⟨g, 0, none⟩) u.funcs.length c2) rfl rfl (by kernel_rfl) (by kernel_rfl) (by kernel_rfl) (by kernel_rfl) (fun _ _ _ h => h) (Or.inl ⟨by rfl, fun w' h => ?_⟩) hS1 ?_
        · obtain ⟨h1, h2, h3, h4, h5, h6, h7⟩ := hSp' w' h
          go_simp
        refine takeZ 4 47 (.int .i64 k) rfl rfl (by kernel_rfl) (by kernel_rfl) (by kernel_rfl) (by kernel_rfl) (fun _ _ _ h => h) (Or.inl ⟨by rfl, fun w' h => ?_⟩) hS1 ?_
        · obtain ⟨h1, h2, h3, h4, h5, h6, h7⟩ := hSp' w' h
          go_simp
        refine takeZ 5 48 (.pointer (some ⟨g, k * 4, none⟩)) rfl rfl (by kernel_rfl) (by kernel_rfl) (by kernel_rfl) (by kernel_rfl) (fun _ _ _ h => h) (Or.inl ⟨by rfl, fun w' h => ?_⟩) hS1 ?_
        · obtain ⟨h1, h2, h3, h4, h5, h6, h7⟩ := hSp' w' h
          go_simp
        refine takeZ 6 49 (.agg #[.string u.funcs[k].name, .int .i64 u.funcs[k].params, .int .i64 u.funcs[k].regs, .slice pb u.funcs[k].blocks.length cb]) rfl rfl (by kernel_rfl) (by kernel_rfl) (by kernel_rfl) (by kernel_rfl) (fun _ _ _ h => h) (Or.inl ⟨by rfl, fun w' h => ?_⟩) hS1 ?_
        · obtain ⟨h1, h2, h3, h4, h5, h6, h7⟩ := hSp' w' h
          have y0 := h3 0 (by omega)
          have y1 := h3 1 (by omega)
          have y2 := h3 2 (by omega)
          have y3 := h3 3 (by omega)
          simp only [List.getElem?_cons_zero, List.getElem?_cons_succ, Nat.add_zero] at y0 y1 y2 y3
          go_simp
        have hS3 : Sp (w9.drew.alloc (.cells #[.string u.funcs[k].name, .int .i64 u.funcs[k].params, .int .i64 u.funcs[k].regs, .slice pb u.funcs[k].blocks.length cb] 37)) := hSk hS1 ((Kept.refl (fun _ => False) _).alloc _) (fun h => h) (fun h => h) (fun h => h)
        refine stepZ_1 (i := 7) (by kernel_rfl) (stepZ_to 50 (.slice (some ⟨w9.heap.size, 0, none⟩) 1 1) (w9.drew.alloc (.cells #[.string u.funcs[k].name, .int .i64 u.funcs[k].params, .int .i64 u.funcs[k].regs, .slice pb u.funcs[k].blocks.length cb] 37)) rfl rfl rfl (by go_simp) hS3 ?_)
        refine stepZ_1 (i := 8) (by kernel_rfl) (stepZ_append 51 _ _ 23 rfl rfl rfl rfl 37 iF _ 4 56 Tryd.underlying23 l1 l2 l3 l4 rfl (by decide) locFun (v := .slice po (cnt (tableU u.funcs m) k) co) (by go_simp) (xs := keepTo (tableU u.funcs m) u.funcs k) (U := So) ?hso ⟨w9.heap.size, 0, none⟩ 1 [.string u.funcs[k].name, .int .i64 u.funcs[k].params, .int .i64 u.funcs[k].regs, .slice pb u.funcs[k].blocks.length cb] u.funcs[k] (by go_simp) rfl ?hn ?ho (T := Tj k) ?hx ?ha ?ht ?hm ?hb ?_)
        case hso => exact HSo.out.loc locFun (fun b hb => (Below.heap_alloc w9.drew _ b (by have := HSo.out.inb b hb; show b < w9.heap.size; omega)).trans (HB9.out b (fun e => (HSob.out b hb).elim (fun ⟨j, h1, h2⟩ => by have := (HTl.out j (by omega) b h2).2; omega) (fun h => by omega)))) (by show wr.heap.size ≤ (w9.heap.push _).size; simp; omega)
        case hn => exact cells_new _ _ _ rfl
        case ho => intro z hz; simp only [List.mem_cons, List.not_mem_nil, or_false] at hz; rcases hz with rfl | rfl | rfl | rfl <;> rfl
        case hx =>
          rw [← HCS.out]
          refine locFun _ _ _ _ _ (HSF.out.1.el k hlt) (fun b hb => ?_) (by show w2.heap.size ≤ (w9.heap.push _).size; simp; omega)
          have h1 := HSF.out.1.sub k hlt b hb
          have h2 := HSF.out.1.inb b h1
          have h3 := HSl.out b (HSS.out.2.2 b h1)
          exact (Below.heap_alloc w9.drew _ b (by show b < w9.heap.size; omega)).trans ((HB9.out b (by omega)).trans ((HK.out.block b (by omega) (fun h => or3r h (fun h => by omega) (fun h => by omega) (fun ⟨j, h4, h5⟩ => HSF.out.1.two j k (by omega) hlt (by omega) b h5 hb))).trans (HB28.out.block b h2)))
        case ha => exact fun b h1 h2 => (HSob.out b h1).elim (fun ⟨j, h3, h4⟩ => HSF.out.1.two j k (by omega) hlt (by omega) b h4 h2) (fun h => by have := HSF.out.1.inb b (HSF.out.1.sub k hlt b h2); omega)
        case ht => exact fun b hb => by have := HSF.out.1.inb b (HSF.out.1.sub k hlt b hb); show b < (w9.heap.push _).size; simp; omega
        case hm => rw [keepTo_len _ _ _ hk]; unfold maxLen; omega
        case hb => rw [keepTo_len _ _ _ hk]; omega
        intro v2 w8 ⟨S', hO8, hsub, hK8⟩
        obtain ⟨pv, cv, hv2, _⟩ := hO8.val
        have hlen8 : (keepTo (tableU u.funcs m) u.funcs k ++ [u.funcs[k]]).length = cnt (tableU u.funcs m) (k + 1) := by
          rw [← keepTo_succ_yes hlt hhad, keepTo_len _ _ _ hlt]
        have hc1 : cnt (tableU u.funcs m) (k + 1) = cnt (tableU u.funcs m) k + 1 := by rw [cnt, if_pos hhad]
        rw [hlen8, hc1] at hv2
        subst hv2
        have hSn : ∀ i, i < W8.heap.size → w2.heap.size ≤ i → ¬ So i := fun i hi hl h => (HSob.out i h).elim (fun ⟨j, h1, h2⟩ => by have := (HTl.out j (by omega) i h2).2; omega) (fun h => by omega)
        have hng : ¬ So g := fun h => (HSob.out g h).elim (fun ⟨j, h1, h2⟩ => HSF.out.1.off j (by omega) g rfl h2) (fun h => by omega)
        have hS4 : Sp w8 := hSk hS3 hK8 (hSn _ (by omega) (by omega)) (hSn _ (by omega) (by omega)) hng
        refine ⟨hS4, ?_⟩
        refine takeZ 9 52 (.pointer (some ⟨w7.heap.size + 1, 1, none⟩)) rfl rfl (by kernel_rfl) (by kernel_rfl) (by kernel_rfl) (by kernel_rfl) (fun _ _ _ h => h) (Or.inl ⟨by rfl, fun w' h => ?_⟩) hS4 ?_
        · obtain ⟨h1, h2, h3, h4, h5, h6, h7⟩ := hSp' w' h
          go_simp
        obtain ⟨h1, h2, h3, h4, h5, h6, h7⟩ := hSp' w8 hS4
        clear h2 h3
        refine stepZ_1 (i := 10) (by kernel_rfl) (stepZ_skipNo (w8.setCell ⟨w7.heap.size + 1, 1, none⟩ (.slice pv (cnt (tableU u.funcs m) k + 1) cv)) rfl rfl rfl (by go_simp) (fun h => absurd rfl h) (wpAnyZ_done (by kernel_rfl) ?_ _))
        simp only [calm]
        have hrel : (∃ So, SlO 37 4 FunO (w8.setCell ⟨w7.heap.size + 1, 1, none⟩ (.slice pv (cnt (tableU u.funcs m) k + 1) cv)) (.slice pv (cnt (tableU u.funcs m) k + 1) cv) (keepTo (tableU u.funcs m) u.funcs (k + 1)) So ∧ (∀ b, So b → (∃ j, j < k + 1 ∧ Tj j b) ∨ W8.heap.size ≤ b)) ∧ (w8.setCell ⟨w7.heap.size + 1, 1, none⟩ (.slice pv (cnt (tableU u.funcs m) k + 1) cv)).heap[w7.heap.size + 1]? = some (.cells #[.slice p1 u.globals.length c1, .slice pv (cnt (tableU u.funcs m) k + 1) cv] 25 (0, 0)) ∧
            ((w8.setCell ⟨w7.heap.size + 1, 1, none⟩ (.slice pv (cnt (tableU u.funcs m) k + 1) cv)).rowIs (w7.heap.size) 3 u.funcs.length fun j => .int .i64 (atD (tableU u.funcs m) (k + 1) j)) ∧ Kept (fun b => b = w7.heap.size + 1 ∨ b = w7.heap.size ∨ ∃ j, j < k + 1 ∧ Tj j b) W8 (w8.setCell ⟨w7.heap.size + 1, 1, none⟩ (.slice pv (cnt (tableU u.funcs m) k + 1) cv)) := by
          have hlo : ∀ b, S' b → (∃ j, j < k + 1 ∧ Tj j b) ∨ W8.heap.size ≤ b := fun b hb => by
            rcases hsub b hb with h | h | h
            · exact (HSob.out b h).elim (fun ⟨j, h1, h2⟩ => .inl ⟨j, by omega, h2⟩) .inr
            · exact .inl ⟨k, by omega, h⟩
            · right
              have e : (w9.drew.alloc (.cells #[.string u.funcs[k].name, .int .i64 u.funcs[k].params, .int .i64 u.funcs[k].regs, .slice pb u.funcs[k].blocks.length cb] 37)).heap.size = w9.heap.size + 1 := by show (w9.heap.push _).size = _; simp
              omega
          have e4 : w8.heap[w7.heap.size + 1]? = some (.cells #[.slice p1 u.globals.length c1, .slice po (cnt (tableU u.funcs m) k) co] 25 (0, 0)) := by
            rw [hSp] at hS4
            exact hS4.1
          have hRow8 : w8.rowIs (w7.heap.size) 3 u.funcs.length fun j => .int .i64 (atD (tableU u.funcs m) (k + 1) j) := by
            refine HRow9.out.of_block ((hK8.block (w7.heap.size) ?_ (hSn _ (by omega) (by omega))).trans (Below.heap_alloc w9.drew _ _ (by show _ < w9.heap.size; omega)))
            show _ < (w9.heap.push _).size
            simp
            omega
          refine ⟨⟨S', ?_, hlo⟩, ?_, ?_, ?_⟩
          · rw [keepTo_succ_yes hlt hhad]
            exact hO8.loc locFun (fun i hi => Go.Deep.blk_setCell_other _ _ _ _ (fun e => by
              have e2 : i = w7.heap.size + 1 := e
              rcases hlo i hi with ⟨j, h1, h2⟩ | h
              · have := HTl.out j (by omega) _ h2; omega
              · omega)) (by simp [World.setCell])
          · rw [heap_set e4 1 _]
            rfl
          · exact hRow8.setOther (by show w7.heap.size ≠ w7.heap.size + 1; omega) _
          · have kA : Kept (fun b => b = w7.heap.size + 1 ∨ b = w7.heap.size ∨ ∃ j, j < k + 1 ∧ Tj j b) W8 (w9.drew.alloc (.cells #[.string u.funcs[k].name, .int .i64 u.funcs[k].params, .int .i64 u.funcs[k].regs, .slice pb u.funcs[k].blocks.length cb] 37)) := HK9.out.drew.alloc _
            exact (kA.trans hK8 (fun i hi h => (HSob.out i h).elim (fun ⟨j, h1, h2⟩ => .inr (.inr ⟨j, by omega, h2⟩)) (fun h => by omega))).setCell (.inl rfl) _
        have HRel := hidI hrel
        clear hrel hS4 h1 h4 h5 h6 h7 hO8 hsub hK8 hS3 hS1 hS1' hSk hSp' hSp hlen8 hc1
        go_wp2_with fail
        exact ⟨⟨k + 1, .slice pv (cnt (tableU u.funcs m) k + 1) cv, by omega, by go_num, HRel.out.1, HRel.out.2.1, HRel.out.2.2.1, HRel.out.2.2.2⟩, by simp [intOf]; omega⟩
    · obtain rfl : k = u.funcs.length := by omega
      obtain ⟨W4, hW4⟩ : ∃ W4, W4 = wr := ⟨_, rfl⟩
      rw [← hW4] at HSo HOb HRow HK hsz ob1 obz HKn HCr hghr hhr
      obtain ⟨at_, hat⟩ : ∃ at_ : Int → Int, at_ = fun x => atD (tableU u.funcs m) u.funcs.length x.toNat := ⟨_, rfl⟩
      obtain ⟨xs, hxs⟩ : ∃ xs, xs = keepTo (tableU u.funcs m) u.funcs u.funcs.length := ⟨_, rfl⟩
      have hxl : xs.length = cnt (tableU u.funcs m) u.funcs.length := by rw [hxs, keepTo_len _ _ _ (Nat.le_refl _)]
      rw [← hxs] at HSo
      have HXS := hidI hxs
      have HAT := hidI hat
      have HXL := hidI hxl
      clear hxs hat hxl
      have hSoU : ∀ b, So b → w.heap.size + 1 + 1 ≤ b ∧ b < W4.heap.size ∧ (b < w2.heap.size ∨ W8.heap.size ≤ b) := fun b hb => by
        have h1 := HSo.out.inb b hb
        rcases HSob.out b hb with ⟨j, h2, h3⟩ | h2
        · have := HTl.out j (by omega) b h3
          omega
        · omega
      have HSoU := hidI hSoU
      clear hSoU
      rw [← hW4]
      clear hW4 hhr
      go_wp2_with fail
      go_loopw [8] (fun i wr => ∃ k : Nat, k ≤ cnt (tableU u.funcs m) u.funcs.length ∧ i = .int .i64 k ∧ SlO 37 4 FunO wr (.slice po (cnt (tableU u.funcs m) u.funcs.length) co) (renTo at_ xs k) So ∧ Kept So W4 wr) (fun i _ => cnt (tableU u.funcs m) u.funcs.length - (intOf i).toNat)
      case atStart => exact ⟨0, by omega, rfl, by rw [renTo_zero]; exact HSo.out, Kept.refl _ _⟩
      case round =>
        obtain ⟨k, hk2, rfl, hL, hK5⟩ := hrel
        obtain ⟨w5, hw5⟩ : ∃ w5 : World, w5 = wr := ⟨_, rfl⟩
        subst hw5
        have HL := hidI hL
        have HK5 := hidI hK5
        have hz5 := hK5.size
        have hO5 := (hK5.block (w7.heap.size + 1) obz (fun h => by have := HSoU.out _ h; omega)).trans HOb.out
        have o1 : w5.cell? ⟨w7.heap.size + 1, 1, none⟩ = some (.slice po (cnt (tableU u.funcs m) u.funcs.length) co) := (blk hO5).1 1
        have oz5 := ltHeap hO5
        have HO5 := hidI hO5
        clear hL hK5 hO5
        by_cases hlt : k < cnt (tableU u.funcs m) u.funcs.length
        · have hkx2 : k < xs.length := by rw [HXL.out]; exact hlt
          have hkx : k < (renTo at_ xs k).length := by rw [renTo_len]; exact hkx2
          obtain ⟨f, hf⟩ : ∃ f, f = xs[k] := ⟨_, rfl⟩
          have HFx := hidI hf
          have hfr : (renTo at_ xs k)[k] = f := by rw [renTo_get hkx2, hf]
          clear hf
          obtain ⟨fa, hfa, _, _, hfe⟩ := keepTo_mem (had := tableU u.funcs m) (xs := u.funcs) (f := f) (k := u.funcs.length) (by rw [← HXS.out, HFx.out]; exact List.getElem_mem hkx2)
          have hf0 : 0 < f.blocks.length := by have := (HOK.out.fn hfa).2.2.1.1; rw [hfe] at this; omega
          have hfc : ∀ x ∈ allIns f, x.op = 20 → 0 ≤ x.fn ∧ x.fn < (u.funcs.length : Int) := fun x hx ho => by
            rw [← hfe] at hx
            exact HOK.out.callees hfa x.fn (List.mem_map.2 ⟨x, List.mem_filter.2 ⟨hx, by simp [ho]⟩, rfl⟩)
          have HFC := hidI hfc
          clear hfc hfe
          obtain ⟨g, c', cs', T', hv', _⟩ := HL.out.focus locFun (by omega) hkx
          have hpo : po = some ⟨g, 0, none⟩ := by injection hv'
          subst hpo
          clear hv'
          obtain ⟨bb, cb, hsh, hSbb, hSg, hgz, hbl0, hls⟩ := HL.out.shape hkx (by rw [hfr]; exact hf0)
          rw [hfr] at hsh hbl0 hls
          have HSH := hidI hsh
          have HLS := hidI hls
          have hbl : f.blocks.length * 96 ≤ 140737488351232 := hbl0
          have HL0 : Hid (SlO 37 4 FunO w5 (.slice (some ⟨g, 0, none⟩) (cnt (tableU u.funcs m) u.funcs.length) co) ((renTo at_ xs k).set k (upI (fun _ => renI at_) f 0)) So) := by
            show SlO _ _ _ _ _ _ _
            rw [upI_zero]
            have e1 : (renTo at_ xs k).set k f = renTo at_ xs k := by rw [← hfr, List.set_getElem_self]
            rw [e1]
            exact HL.out
          clear hsh hls hbl0
          go_wp2_with fail
          go_loopw [9] (fun i wr => ∃ b : Nat, b ≤ f.blocks.length ∧ i = .int .i64 b ∧ SlO 37 4 FunO wr (.slice (some ⟨g, 0, none⟩) (cnt (tableU u.funcs m) u.funcs.length) co) ((renTo at_ xs k).set k (upI (fun _ => renI at_) f (posL (listLen f) b).length)) So ∧ FunSh g k bb f.blocks.length cb (lqW w5 bb) (listLen f) (lcW w5 bb) wr ∧ Kept So w5 wr) (fun i _ => f.blocks.length - (intOf i).toNat)
          case atStart => exact ⟨0, by omega, rfl, HL0.out, HSH.out, Kept.refl _ _⟩
          case round =>
            obtain ⟨b, hb, rfl, hLb, hShb, hKb⟩ := hrel
            obtain ⟨w6, hw6⟩ : ∃ w6 : World, w6 = wr := ⟨_, rfl⟩
            subst hw6
            have HLb := hidI hLb
            have HShb := hidI hShb
            have HKb := hidI hKb
            have hz6 := hKb.size
            have hO6 := (hKb.block (w7.heap.size + 1) oz5 (fun h => by have := HSoU.out _ h; omega)).trans HO5.out
            have o16 : w6.cell? ⟨w7.heap.size + 1, 1, none⟩ = some (.slice (some ⟨g, 0, none⟩) (cnt (tableU u.funcs m) u.funcs.length) co) := (blk hO6).1 1
            have oz6 := ltHeap hO6
            have sf := hShb.fn
            have gz6 : g < w6.heap.size := by omega
            have q1 : (0 : Int) ≤ (k : Int) := by omega
            have q2 : (k : Int) < (cnt (tableU u.funcs m) u.funcs.length : Nat) := by omega
            clear hLb hShb hKb hO6
            by_cases hbl2 : b < f.blocks.length
            · have sb := HShb.out.blk b hbl2
              have bbz := lt_of_cell sb
              have hll := (HLS.out b hbl2).1
              have hll2 : listLen f b * 80 ≤ 140737488351232 := hll
              have q3 : (0 : Int) ≤ (b : Int) := by omega
              have q4 : (b : Int) < f.blocks.length := by omega
              clear hll
              go_wp2_with fail
              go_loopw [11] (fun i wr => ∃ j : Nat, j ≤ listLen f b ∧ i = .int .i64 j ∧ SlO 37 4 FunO wr (.slice (some ⟨g, 0, none⟩) (cnt (tableU u.funcs m) u.funcs.length) co) ((renTo at_ xs k).set k (upI (fun _ => renI at_) f ((posL (listLen f) b).length + j))) So ∧ FunSh g k bb f.blocks.length cb (lqW w5 bb) (listLen f) (lcW w5 bb) wr ∧ Kept So w5 wr) (fun i _ => listLen f b - (intOf i).toNat)
              case atStart => exact ⟨0, by omega, rfl, HLb.out, HShb.out, HKb.out⟩
              case round =>
                obtain ⟨j, hj, rfl, hLj, hShj, hKj⟩ := hrel
                have HLj := hidI hLj
                have HShj := hidI hShj
                have HKj := hidI hKj
                have hKjs := hKj.size
                clear hLj hShj hKj
                by_cases hjl : j < listLen f b
                · have hj2 : j < f.blocks[b].list.length := by rw [← listLen_eq hbl2]; exact hjl
                  obtain ⟨lb, qa, ca, hlq, hSlb, hlbz, hfri, hci, hlg, hlbb, hid, hupd⟩ := turn_step HLj.out hkx hbl2 hj2 HShj.out
                  have x0 : wr.cell? ⟨lb, j * 8, none⟩ = some (.int .i64 f.blocks[b].list[j].op) := hci 0 (by omega)
                  have x6 : wr.cell? ⟨lb, j * 8 + 6, none⟩ = some (.int .i64 f.blocks[b].list[j].fn) := hci 6 (by omega)
                  rw [hlq]
                  have HID := hidI hid
                  have HUP := hidI hupd
                  have hxa : f.blocks[b].list[j] ∈ allIns f := List.mem_flatMap.2 ⟨f.blocks[b], List.getElem_mem hbl2, List.getElem_mem hj2⟩
                  have HFX := hidI (HFC.out _ hxa)
                  have hrz : w7.heap.size < wr.heap.size := by omega
                  have hRowW := HRow.out.of_block ((HKj.out.block (w7.heap.size) (by omega) (fun h => by have := HSoU.out _ h; omega)).trans (HK5.out.block (w7.heap.size) (by omega) (fun h => by have := HSoU.out _ h; omega)))
                  have q5 : (0 : Int) ≤ (j : Int) := by omega
                  have q6 : (j : Int) < listLen f b := by omega
                  generalize hxx : f.blocks[b].list[j] = x at x0 x6 HID HUP HFX
                  have HXX := hidI hxx
                  clear hci hid hupd hxa hxx
                  cases hop : (x.op == 20)
                  · have hid2 : renI at_ x = x := by
                      unfold renI
                      rw [if_neg (by simpa using hop)]
                    have HI := hidI (HID.out hid2)
                    clear hid2
                    go_wp2_with fail
                    exact ⟨⟨j + 1, by omega, by go_num, HI.out, HShj.out, HKj.out⟩, by simp [intOf]; omega⟩
                  · have ho20 : x.op = 20 := by simpa using hop
                    obtain ⟨hfn0, hfn1⟩ := HFX.out ho20
                    obtain ⟨n0, hn0⟩ : ∃ n0 : Nat, x.fn = (n0 : Int) := ⟨x.fn.toNat, by omega⟩
                    rw [hn0] at x6
                    have hn0l : n0 < u.funcs.length := by omega
                    have hcM := hRowW.cell hn0l
                    have hatx : renI at_ x = { x with fn := atD (tableU u.funcs m) u.funcs.length n0 } := by
                      unfold renI
                      rw [if_pos ho20, HAT.out, hn0]
                      simp
                    have hatI : I64 (atD (tableU u.funcs m) u.funcs.length n0) := by
                      have := cnt_le (tableU u.funcs m) n0
                      unfold atD I64
                      split <;> omega
                    have HI := hidI (HUP.out _ hatI hatx)
                    have g3 : (0 : Int) ≤ (n0 : Int) := by omega
                    have g4 : (n0 : Int) < u.funcs.length := by omega
                    clear hatx hatI ho20 hn0 hRowW
                    go_wp2_with fail
                    have hneL : ∀ b', b' ≠ lb → (wr.setCell ⟨lb, j * 8 + 6, none⟩ (.int .i64 (atD (tableU u.funcs m) u.funcs.length n0))).heap[b']? = wr.heap[b']? := fun b' hb' => Go.Deep.blk_setCell_other wr ⟨lb, j * 8 + 6, none⟩ _ b' hb'
                    exact ⟨⟨j + 1, by omega, by go_num, HI.out, HShj.out.other (hneL g (fun e => hlg e.symm)) (hneL bb (fun e => hlbb e.symm)), HKj.out.setCell hSlb _⟩, by simp [intOf]; omega⟩
                · obtain rfl : j = listLen f b := by omega
                  have hend : SlO 37 4 FunO wr (.slice (some ⟨g, 0, none⟩) (cnt (tableU u.funcs m) u.funcs.length) co) ((renTo at_ xs k).set k (upI (fun _ => renI at_) f ((posL (listLen f) (b + 1)).length))) So := by rw [posL_succ]; exact HLj.out
                  have HEnd := hidI hend
                  clear hend
                  go_wp2_with fail
                  exact ⟨⟨b + 1, by omega, by go_num, HEnd.out, HShj.out, HKj.out⟩, by simp [intOf]; omega⟩
            · obtain rfl : b = f.blocks.length := by omega
              have hend : SlO 37 4 FunO w6 (.slice (some ⟨g, 0, none⟩) (cnt (tableU u.funcs m) u.funcs.length) co) (renTo at_ xs (k + 1)) So := by
                have h1 := HLb.out
                rw [upI_all, HFx.out] at h1
                rw [← renTo_set hkx2]
                exact h1
              have HEnd := hidI hend
              have HK6 := hidI (HK5.out.trans HKb.out (fun _ _ h => h))
              clear hend
              go_wp2_with fail
              exact ⟨⟨k + 1, by omega, by go_num, HEnd.out, HK6.out⟩, by simp [intOf]; omega⟩
        · obtain rfl : k = cnt (tableU u.funcs m) u.funcs.length := by omega
          have o0 : w5.cell? ⟨w7.heap.size + 1, 0, none⟩ = some (.slice p1 u.globals.length c1) := (blk HO5.out).1 0
          have hz27 : w2.heap.size < w7.heap.size := by omega
          have hRb : w5.heap[w.heap.size + 1]? = w2.heap[w.heap.size + 1]? := (HK5.out.block _ (by omega) (fun h => by have := HSoU.out _ h; omega)).trans ((HK.out.block _ (by omega) (fun h => or3r h (fun h => by omega) (fun h => by omega) fun ⟨j, h1, h2⟩ => by have := (HTl.out j h1 _ h2).1; omega)).trans (HB28.out.block _ (by omega)))
          have hZ := hRb.trans HZ2.out
          have rz0 : w5.cell? ⟨w.heap.size + 1, 0, none⟩ = some (.slice none 0 0) := (blk hZ).1 0
          have rz1 : w5.cell? ⟨w.heap.size + 1, 1, none⟩ = some (.slice none 0 0) := (blk hZ).1 1
          have rf := (blk hZ).2
          have hzl := ltHeap hZ
          go_wp2_with fail
          obtain ⟨WF, hWF⟩ : ∃ WF, WF = (w5.setCell ⟨w.heap.size + 1, 0, none⟩ (.slice p1 u.globals.length c1)).setCell ⟨w.heap.size + 1, 1, none⟩ (.slice po (cnt (tableU u.funcs m) u.funcs.length) co) := ⟨_, rfl⟩
          rw [← hWF]
          have hF1 : WF.heap[w.heap.size + 1]? = some (.cells #[.slice p1 u.globals.length c1, .slice po (cnt (tableU u.funcs m) u.funcs.length) co] 25 (0, 0)) := by
            rw [hWF, heap_set (heap_set hZ 0 _) 1 _]
            rfl
          have hFo : ∀ k, k ≠ w.heap.size + 1 → WF.heap[k]? = w5.heap[k]? := fun k h1 => by
            rw [hWF]
            repeat rw [Go.Deep.blk_setCell_other _ _ _ _ (by assumption)]
          have hFs : WF.heap.size = w5.heap.size := by rw [hWF]; simp [World.setCell]
          have hB5 : Below w.heap.size w w5 := by
            have b2 : Below w.heap.size w w2 := HB2.out
            have b3 : Below w.heap.size w W8 := b2.trans (HB28.out.mono b2.size)
            have b4 : Below w.heap.size w W4 := b3.trans (HK.out.below b3.size fun b h => or3r h (fun h => by omega) (fun h => by omega) fun ⟨j, h1, h2⟩ => by have := (HTl.out j h1 b h2).1; omega)
            exact b4.trans (HK5.out.below b4.size fun b h => by have := (HSoU.out b h).1; omega)
          have hFb : Below w.heap.size w WF := by
            rw [hWF]
            exact (hB5.setCell (by simp) _).setCell (by simp) _
          clear hWF
          have k0 := (blk hF1).1 0
          have k1' := (blk hF1).1 1
          have hlenD : (doneU (tableU u.funcs m) u).funcs.length = cnt (tableU u.funcs m) u.funcs.length := by
            unfold doneU
            rw [List.length_map, keepTo_len _ _ _ (Nat.le_refl _)]
          have hGl := HSG.out.loc locGlo (fun _ h => h) (w' := WF) (fun b hb => by
            have e1 := HSl.out b (HSS.out.2.1 b hb)
            have e2 := HSG.out.sl.inb b hb
            refine (hFo b (by omega)).trans ((HK5.out.block b (by omega) (fun h => ?_)).trans ((HK.out.block b (by omega) (fun h => or3r h (fun h => by omega) (fun h => by omega) fun ⟨j, h1, h2⟩ => HSS.out.1 b hb (HSF.out.1.sub j h1 b h2))).trans (HB28.out.block b e2)))
            rcases HSob.out b h with ⟨j, h6, h7⟩ | h6
            · exact HSS.out.1 b hb (HSF.out.1.sub j h6 b h7)
            · omega) (by omega)
          have hFl := HL.out.loc locFun (w' := WF) (fun b hb => hFo b (by have := HSoU.out b hb; omega)) (by omega)
          refine bodyPost_ret (v := .agg #[.slice p1 u.globals.length c1, .slice po (cnt (tableU u.funcs m) u.funcs.length) co]) ?_ rfl ⟨⟨p1, c1, po, co, by rw [hlenD], fun b => S1 b ∨ So b, ⟨_, _, S1, So, rfl, hGl, ⟨?_, ?_⟩, ?_, fun _ h => .inl h, fun _ h => .inr h⟩, ?_⟩, hFb⟩
          · simp [results, Tryd.results17, go_sem, k0, k1']
          · rw [hlenD]
            have e1 : (doneU (tableU u.funcs m) u).funcs = renTo at_ xs (cnt (tableU u.funcs m) u.funcs.length) := by
              rw [← HXL.out, renTo_all, HAT.out, HXS.out]
              rfl
            rw [e1]
            exact hFl
          · rw [hlenD]
            have := cnt_le (tableU u.funcs m) u.funcs.length
            unfold reachBytes
            omega
          · intro b h6 h7
            rcases HSob.out b h7 with ⟨j, h8, h9⟩ | h8
            · exact HSS.out.1 b h6 (HSF.out.1.sub j h8 b h9)
            · have := HSG.out.sl.inb b h6
              omega
          · rintro b (h | h)
            · have := HSl.out b (HSS.out.2.1 b h); omega
            · have := (HSoU.out b h).1; omega
end Go.Proofs.YtdjamkinijhjoaaDoor
