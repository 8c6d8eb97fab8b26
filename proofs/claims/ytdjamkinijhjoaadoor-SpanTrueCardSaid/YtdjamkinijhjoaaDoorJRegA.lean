/-
  The contract of dom.TreeOf.
  Regions that draw their order, operation by operation, where what S says holds behind every operation.
-/
import Derived.Deep.LoopGhost
import Derived.WalkKit
import Derived.WalkSpells
import Derived.WalkLawsBesides
import Derived.Test.YtdjamkinijhjoaaDoorJSsaA
import Derived.Test.YtdjamkinijhjoaaDoorJDomO
import Derived.Test.YtdjamkinijhjoaaDoorJDomD
import Derived.Test.YtdjamkinijhjoaaDoorRepA
namespace Go.Proofs.YtdjamkinijhjoaaDoor
open Go.RowKit Go.Shelf

theorem tail_slice {g n c : Nat} (h1 : 1 ≤ n) (h2 : n ≤ c) : ∃ p, (1 < n → p = some ⟨g, 1, none⟩) ∧ ∀ w, (Instr.sliceAt 46 (.slice (some ⟨g, 0, none⟩) n c) (some (.int .i64 1)) none none).run Tryd.prog w = .ok (.slice p (n - 1) (c - 1)) w := by
 refine ⟨if c = 1 then some ⟨g, 0, none⟩ else some ⟨g, 1, none⟩, fun h => by rw [if_neg (by omega)], fun w => ?_⟩
 have he : Tryd.prog.underlying 46 = some (.slice (Tryd.prog.elem 46)) := by kernel_rfl
 have hs : ∀ w, (sizeOf (Tryd.prog.elem 46)).run Tryd.prog w = .ok 1 w := by intro w; kernel_rfl
 rw [run_sliceAt_slice (h := he), run_slice_l (ht := he) (h0 := by omega) (h1 := by omega), hs]
 simp only [Result.andThen_ok, sliced]
 by_cases hc : c = 1
 ·simp [hc]
 ·simp [hc, addr_addO]
theorem treeB_blocks {f : FunL} {w w' : World} {fp : Option Addr} (hF : SliceAt w 6 (BlkR w) fp f.blocks) (hn : 0 < f.blocks.length) (hb : Below w.heap.size w w') : ∃ bb bo, fp = some ⟨bb, bo, none⟩ ∧ ∀ i, i < f.blocks.length → BlkAt w' bb bo i ((tosL f).getD i []) := by
 rcases hF with h | ⟨b, o, rfl, h⟩
 ·rw [h] at hn; simp at hn
 ·exact ⟨b, o, rfl, fun i hi => blkAt_of (.inr ⟨b, o, rfl, h⟩) hb i hi⟩

set_option maxRecDepth 100000 in
set_option maxHeartbeats 2000000 in
theorem treeOf_any (f : FunL) (fp : Option Addr) (fc : Nat) (w : World) (hS : FunS f) (hF : SliceAt w 6 (BlkR w) fp f.blocks) :
  Calls Tryd.prog 54 #[.agg #[.string f.name, .int .i64 f.params, .int .i64 f.regs, .slice fp f.blocks.length fc]] w fun e w' => (∃ U, e = .returned (.slice (some ⟨U, 0, none⟩) f.blocks.length f.blocks.length) ∧ w.heap.size ≤ U ∧
   w'.rowIs U 3 f.blocks.length (fun c => .int .i64 (putI (treeK (insN f) (ordN f.blocks)) 0 (-1) c))) ∧ Below w.heap.size w w' := by
 obtain ⟨bb, bo, rfl, _⟩ := treeB_blocks hF hS.n1 (Below.refl _ _)
 have HF := hidI hF
 have HS := hidI hS
 have n1 := hS.n1
 have n40 := hS.n40
 obtain ⟨i1, k1, k2, k3, k4⟩ := info_parts infoInt
 have hmk := run_make_row 46 3 i1 (.int .i64 0) underInts k1 k2 k3 rfl .i64 .i64 f.blocks.length (by rw [k4]; omega) (by omega)
 clear hF hS
 go_enter Tryd.func54, Tryd.ntmps54
 have hord := HS.out.ord
 have hlen := HS.out.ordLen
 obtain ⟨o, ho⟩ : ∃ o, o = ordN f.blocks := ⟨_, rfl⟩
 rw [← ho] at hord hlen ⊢
 obtain ⟨ins, hi⟩ : ∃ ins, ins = insN f := ⟨_, rfl⟩
 rw [← hi]
 have HI := hidI hi
 have hl0 := hord.pos
 have HOrd := hidI hord
 clear hi ho hord
 go_wp2_with fail
 refine (orderOf_any f _ fc _ n1 (by omega) HS.out.two HS.out.tosB (blksMono HF.out (by repeat (first | (with_reducible first | exact bR _ _ | exact bH ‹_› | refine bD ?_ | refine bN ?_ _ | refine bS ?_ ?_ _ | refine bA ?_ ?_ _ | refine bT hb3 ?_ ?_ | refine bT hb5 ?_ ?_ | refine bT hb4 ?_ ?_) | omega | (simp; omega) | simp))) HS.out.postLen).mono ?_
 rintro e w1 ⟨v, rfl, hO, hb1⟩
 rw [HOrd.out.ints, List.length_map] at hO
 obtain ⟨p, c, rfl⟩ := own_slice hO
 obtain ⟨g, rfl, hg1, hg2, _⟩ := own_cell hO hl0
 have hOc : ∀ i (h : i < o.length), w1.cell? ⟨g, i, none⟩ = some (.int .i64 (o[i] : Nat)) := fun i h => by
  obtain ⟨g', e1, _, _, hc⟩ := own_cell hO h
  cases e1
  rw [hc]
  simp [h]
 have hcap : o.length ≤ c := by
  rcases hO.2 with ⟨h1, _⟩ | ⟨_, _, _, h1, _, _, h2, _⟩
  ·cases h1
  ·cases h1; exact h2
 have HOc := hidI hOc
 have HB1 : Hid (Below w.heap.size w w1) := Below.trans (by repeat (first | (with_reducible first | exact bR _ _ | exact bH ‹_› | refine bD ?_ | refine bN ?_ _ | refine bS ?_ ?_ _ | refine bA ?_ ?_ _ | refine bT hb3 ?_ ?_ | refine bT hb5 ?_ ?_ | refine bT hb4 ?_ ?_) | omega | (simp; omega) | simp)) (hb1.mono (by simp))
 have hA := heap_below hb1 (k := w.heap.size) (by simp) (heap_here w _)
 obtain ⟨hcc, hcf⟩ := blk hA
 have z1 := ltHeap hA
 have hg0 : w.heap.size + 1 ≤ g := by simpa using hg1
 have HA := hidI hA
 clear hb1 hO hOc hg1 hA
 go_wp2_with fail
 refine (repeat_int (w1.heap.size + 1) 0 1 (-1) f.blocks.length _ (by omega) (fun j hj => by
  obtain rfl : j = 0 := by omega
  exact (blk (heap_at (w := w1.alloc (.cells (madeCells #[.int .i64 0] f.blocks.length) 3)) (o := .cells #[.int .i64 (-1)] 3) (by simp))).1 0)).mono ?_
 rintro e w2 ⟨rfl, hU, hb2⟩
 have eU : ((w1.alloc (.cells (madeCells #[.int .i64 0] f.blocks.length) 3)).alloc (.cells #[.int .i64 (-1)] 3)).heap.size = w1.heap.size + 1 + 1 := by simp
 rw [eU] at hU hb2 ⊢
 have hb12 : Below w1.heap.size w1 w2 := Below.trans (by repeat (first | (with_reducible first | exact bR _ _ | exact bH ‹_› | refine bD ?_ | refine bN ?_ _ | refine bS ?_ ?_ _ | refine bA ?_ ?_ _ | refine bT hb3 ?_ ?_ | refine bT hb5 ?_ ?_ | refine bT hb4 ?_ ?_) | omega | (simp; omega) | simp)) (hb2.mono (by omega))
 have HB2 : Hid (Below w.heap.size w w2) := HB1.out.trans (hb12.mono HB1.out.size)
 have hAt : w2.rowIs w1.heap.size 3 f.blocks.length (fun j => .int .i64 (plK o 0 j : Nat)) := by
  refine (((World.rowIs_made w1 (.int .i64 0) f.blocks.length 3).alloc (.cells #[.int .i64 (-1)] 3)).of_block (hb2.block _ (by omega))).congr fun j _ => by rw [plK_zero]; rfl
 have HOc2 : Hid (∀ i (h : i < o.length), w2.cell? ⟨g, i, none⟩ = some (.int .i64 (o[i] : Nat))) := hidI fun i h => (hb12.cell (p := ⟨g, i, none⟩) hg2).trans (HOc.out i h)
 have HA2 := hidI (heap_below hb12 (k := w.heap.size) z1 HA.out)
 have HU := hidI hU
 have HAt := hidI hAt
 have hz2 : w1.heap.size + 1 + 1 < w2.heap.size := hU.lt
 have HB12 := hidI hb12
 clear hb12 hb2 hU hAt HOc HA hcc hcf hmk
 go_wp2_with fail
 go_loopg [28] o.length (fun q i wr => ∃ k : Nat, k ≤ o.length ∧ q = o.length - k ∧ i = .int .i64 k ∧ wr.rowIs w1.heap.size 3 f.blocks.length (fun j => .int .i64 (plK o k j : Nat)) ∧ Kept (fun b => b = w1.heap.size) w2 wr)
 case atStart => exact ⟨0, by omega, rfl, rfl, HAt.out, Kept.refl _ _⟩
 case round =>
  obtain ⟨k, hk, rfl, rfl, hR, hK⟩ := hrel
  have HR := hidI hR
  have HK := hidI hK
  clear hR hK
  by_cases hlt : k < o.length
  ·have c1 : wr.cell? ⟨g, k, none⟩ = some (.int .i64 (o[k] : Nat)) := (HK.out.cell (p := ⟨g, k, none⟩) (by show g < _; omega) (by show ¬ g = _; omega)).trans (HOc2.out k hlt)
   have hin : o[k] < f.blocks.length := HOrd.out.inb _ (List.getElem_mem hlt)
   have c2 := HR.out.cell hin
   have c3 := HR.out.frozen o[k]
   have HSu := hidI (plK_succ HOrd.out.once hlt)
   generalize o[k] = ok at *
   go_wp2_with fail
   go_roundg (o.length - (k + 1))
   case measure => omega
   case rel => exact ⟨k + 1, by omega, rfl, by go_num, (HR.out.set ok (.int .i64 (k : Nat))).congr fun j _ => by
    rw [HSu.out j]
    split <;> rfl, HK.out.setCell rfl _⟩
  ·obtain rfl : k = o.length := by omega
   clear HAt
   have hRn : wr.rowIs w1.heap.size 3 f.blocks.length (fun j => .int .i64 (plN o j : Nat)) := HR.out.congr fun j _ => by rw [plK_full]
   have hU2 : wr.rowIs (w1.heap.size + 1 + 1) 3 f.blocks.length (fun _ => .int .i64 (-1)) := HU.out.of_block (HK.out.block _ (by omega) (by omega))
   have c0 := hU2.cell n1
   have c0f := hU2.frozen 0
   have HA3 := hidI ((HK.out.block w.heap.size (by omega) (by omega)).trans HA2.out)
   obtain ⟨hcc, hcf⟩ := blk HA3.out
   have z3 : w1.heap.size + 1 + 1 < wr.heap.size := hU2.lt
   have z0 : w.heap.size < wr.heap.size := ltHeap HA3.out
   have zne : ¬ (w1.heap.size + 1 + 1 = w.heap.size) := by omega
   have HRn := hidI hRn
   have HU2 := hidI hU2
   clear hRn hU2 HR
   go_wp2_with fail
   obtain ⟨W3, hW3⟩ : ∃ W3, W3 = wr.setCell ⟨w1.heap.size + 1 + 1, 0, none⟩ (.int .i64 0) := ⟨_, rfl⟩
   rw [← hW3]
   have hK3 : Kept (fun b => b = w1.heap.size ∨ b = w1.heap.size + 1 + 1) w2 W3 := by
    rw [hW3]
    exact (HK.out.mono fun _ _ h => .inl h).setCell (.inr rfl) _
   have hU3 : W3.rowIs (w1.heap.size + 1 + 1) 3 f.blocks.length (fun j => .int .i64 (rootI j)) := by
    rw [hW3]
    refine (HU2.out.set 0 (.int .i64 0)).congr fun j _ => ?_
    unfold rootI
    split <;> rfl
   have hA3 : W3.rowIs w1.heap.size 3 f.blocks.length (fun j => .int .i64 (plN o j : Nat)) := by
    rw [hW3]
    exact HRn.out.setOther (by show w1.heap.size ≠ w1.heap.size + 1 + 1; omega) _
   have HB3 : Hid (Below w.heap.size w W3) := hidI (HB2.out.trans (hK3.below (by omega) fun i hi => by have := HB1.out.size; omega))
   have HOc3 : Hid (∀ i (h : i < o.length), W3.cell? ⟨g, i, none⟩ = some (.int .i64 (o[i] : Nat))) := hidI fun i h => (hK3.cell (p := ⟨g, i, none⟩) (by show g < _; omega) (by show ¬ (g = _ ∨ g = _); omega)).trans (HOc2.out i h)
   have z5 : w1.heap.size + 1 + 1 < W3.heap.size := hU3.lt
   have HU3 := hidI hU3
   have HA3' := hidI hA3
   have zW : w.heap.size < W3.heap.size := by omega
   clear hW3 hK3 hU3 hA3 HRn HU2 HOc2 HA2 HU hcc hcf c0 c0f HK HA3
   refine (graphAhead_any f.name f.params f.regs bb bo fc f.blocks.length (tosL f) W3 n40 (fun i hi => blkAt_of HF.out HB3.out i hi) HS.out.tosD).mono ?_
   rintro e w4 ⟨⟨tf, rfl, hRows⟩, hb4⟩
   have hrw : ∀ c, c < f.blocks.length → ∃ q qc, w4.cell? ⟨W3.heap.size + 1, c, none⟩ = some (.slice q (ins c).length qc) ∧ ∀ j (h : j < (ins c).length), ∃ b, q = some ⟨b, 0, none⟩ ∧ w1.heap.size + 1 + 1 < b ∧ b < w4.heap.size ∧ w4.cell? ⟨b, j, none⟩ = some (.int .i64 ((ins c)[j] : Nat)) := fun c hc => by
    have h1 := hRows.row c hc
    have h2 := hRows.tab.cell hc
    have eI : rowOf (waysOf (tosL f) f.blocks.length) c = ins c := by rw [HI.out]; rfl
    rw [eI] at h1
    obtain ⟨q, qc, hq⟩ := own_slice h1
    refine ⟨q, qc, by rw [h2, hq], fun j hj => ?_⟩
    rw [hq] at h1
    obtain ⟨b, e1, e2, e3, e4⟩ := own_cell h1 hj
    exact ⟨b, e1, by omega, e3, by rw [e4]; simp [hj]⟩
   have HFacts : Hid (∀ W', Kept (fun b => b = w1.heap.size + 1 + 1) w4 W' → (∀ i (h : i < o.length), W'.cell? ⟨g, i, none⟩ = some (.int .i64 (o[i] : Nat))) ∧ W'.rowIs w1.heap.size 3 f.blocks.length (fun j => .int .i64 (plN o j : Nat)) ∧
     (∀ c, c < f.blocks.length → ∃ q qc, W'.cell? ⟨W3.heap.size + 1, c, none⟩ = some (.slice q (ins c).length qc) ∧ ∀ j (h : j < (ins c).length), ∃ b, q = some ⟨b, 0, none⟩ ∧ W'.cell? ⟨b, j, none⟩ = some (.int .i64 ((ins c)[j] : Nat)))) := hidI fun W' hK' => by
    have hsz4 := hb4.size
    refine ⟨fun i h => (hK'.cell (p := ⟨g, i, none⟩) (by show g < _; omega) (by show ¬ g = _; omega)).trans ((hb4.cell (p := ⟨g, i, none⟩) (by show g < _; omega)).trans (HOc3.out i h)), HA3'.out.of_block ((hK'.block _ (by omega) (by omega)).trans (hb4.block _ (by omega))), fun c hc => ?_⟩
    obtain ⟨q, qc, h1, h2⟩ := hrw c hc
    have := hRows.tab.lt
    refine ⟨q, qc, (hK'.cell (p := ⟨W3.heap.size + 1, c, none⟩) this (by show ¬ (W3.heap.size + 1 = _); omega)).trans h1, fun j hj => ?_⟩
    obtain ⟨b, e1, e2, e3, e4⟩ := h2 j hj
    exact ⟨b, e1, (hK'.cell (p := ⟨b, j, none⟩) e3 (by show ¬ b = _; omega)).trans e4⟩
   have HU4 := hidI (HU3.out.of_block (hb4.block _ z5))
   have HB4 : Hid (Below w.heap.size w w4) := HB3.out.trans (hb4.mono (by omega))
   have z6 : w1.heap.size + 1 + 1 < w4.heap.size := by have := hb4.size; omega
   clear hRows hrw hb4 HU3 HA3' HOc3 HB3
   go_wp2_with fail
   have hstart := TreeL.start HOrd.out (ins := ins) (fun b c hb h => by rw [HI.out]; exact ins_of b c hb h) n1
   go_loopg [9] (ranks (plN o) o.length o rootI + 1) (fun q m wr => ∃ (b : Bool) (u : Nat → Int), m = .bool b ∧ wr.rowIs (w1.heap.size + 1 + 1) 3 f.blocks.length (fun j => .int .i64 (u j)) ∧ Kept (fun b => b = w1.heap.size + 1 + 1) w4 wr ∧ (b = true → TreeL f.blocks o ins u q) ∧ (b = false → u = treeK ins o ∧ q = 0))
   case atStart => exact ⟨true, rootI, rfl, HU4.out, Kept.refl _ _, fun _ => hstart, fun h => by cases h⟩
   case round =>
    obtain ⟨b, u, rfl, hR, hK, ht, hf⟩ := hrel
    have HR := hidI hR
    have HK := hidI hK
    clear hR hK HU4 hstart
    cases b with
    | false =>
     obtain ⟨rfl, rfl⟩ := hf rfl
     have c0 := HR.out.cell n1
     have c0f := HR.out.frozen 0
     clear ht hf
     go_wp2_with fail
     go_ret
     refine ⟨⟨w1.heap.size + 1 + 1, rfl, by have := HB1.out.size; omega, (HR.out.set 0 (.int .i64 (-1))).congr fun j _ => ?_⟩, ?_⟩
     ·unfold putI
      split <;> rfl
     ·exact (HB4.out.trans (HK.out.below (by omega) fun i hi => by have := HB1.out.size; omega)).setCell (by show w.heap.size ≤ w1.heap.size + 1 + 1; have := HB1.out.size; omega) _
    | true =>
     obtain ⟨kr, rfl⟩ : ∃ k, gk = k + 1 := ⟨gk - 1, by have := (ht rfl).fuel; omega⟩
     have HL := hidI (ht rfl)
     clear ht hf
     obtain ⟨p1, hp1, hsl⟩ := tail_slice (g := g) hl0 hcap
     have HP1 := hidI hp1
     clear hp1
     have hl1 : ((o.length - 1 : Nat) : Int) ≤ 1000 := by omega
     go_wp2_with fail
     obtain ⟨wo, rfl⟩ : ∃ wo : World, wo = wr := ⟨_, rfl⟩
     clear hsl
     go_loopg [46, 9] (o.length - 1) (fun q s46 s9 wr => ∃ i : Nat, i + 1 ≤ o.length ∧ q = o.length - 1 - i ∧ s46 = .int .i64 i ∧ s9 = .bool (moreT (plN o) ins o u (i + 1)) ∧ wr.rowIs (w1.heap.size + 1 + 1) 3 f.blocks.length (fun j => .int .i64 (roundT (plN o) ins o u (i + 1) j)) ∧ Kept (fun b => b = w1.heap.size + 1 + 1) w4 wr)
     case atStart => exact ⟨0, by omega, by omega, rfl, rfl, HR.out, HK.out⟩
     case round =>
      clear HR HK
      obtain ⟨i, hi, rfl, rfl, rfl, hR, hK⟩ := hrel
      have HK := hidI hK
      clear hK
      by_cases hlt : i + 1 < o.length
      ·obtain ⟨par, hJ0⟩ := HL.out.inv
       have hJ := (HOrd.out.round hJ0 i hi).1
       obtain ⟨hgd, hin, hpl, hne0, hcn⟩ := HOrd.out.getD hlt
       have hms := moreT_succ (plN o) ins o u i
       have hrs := roundT_succ (plN o) ins o u i
       rw [hgd] at hms hrs
       obtain ⟨hc1, _, hrw⟩ := HFacts.out wr HK.out
       have c1 := hc1 (i + 1) hlt
       obtain ⟨q0, q1, c2, c3⟩ := hrw o[i + 1] hcn
       obtain ⟨v, hv⟩ : ∃ v, v = roundT (plN o) ins o u (i + 1) := ⟨_, rfl⟩
       obtain ⟨mo, hmo⟩ : ∃ mo, mo = moreT (plN o) ins o u (i + 1) := ⟨_, rfl⟩
       rw [← hv] at hJ hms hrs hR
       rw [← hmo] at hms ⊢
       have HMS := hidI hms
       have HRS := hidI hrs
       have HJ := hidI hJ
       have HR := hidI hR
       have HX := hidI (And.intro hin (And.intro hpl hne0))
       have HC3 := hidI c3
       have hp1 := HP1.out (by omega)
       subst hp1
       clear hms hrs hJ hR hgd hin hpl hne0 hrw hc1 hv hmo hJ0 c3
       generalize o[i + 1] = b at *
       have hil : ((ins b).length : Int) ≤ 80 := by
        have := insN_len HS.out b
        rw [HI.out]; omega
       generalize hrow : ins b = row at *
       have HRow := hidI hrow
       clear hrow
       have hcell : wr.cell? ⟨g, 1 + i, none⟩ = some (.int .i64 (b : Nat)) := by rw [Nat.add_comm]; exact c1
       clear c1
       go_wp2_with fail
       obtain ⟨wa, rfl⟩ : ∃ wa : World, wa = wr := ⟨_, rfl⟩
       have zU := HR.out.lt
       go_loopg [55, 12] row.length (fun q s55 s12 wr => ∃ (j : Nat) (bi : Int), j ≤ row.length ∧ q = row.length - j ∧ s55 = .int .i64 j ∧ s12 = .int .i64 bi ∧ bi = (row.take j).foldl (bestI v (plN o)) (-1) ∧ -1 ≤ bi ∧ (0 ≤ bi → mkN v bi.toNat) ∧ Below wa.heap.size wa wr)
       case atStart => exact ⟨0, -1, by omega, rfl, rfl, rfl, rfl, by omega, fun h => by omega, Below.refl _ _⟩
       case round =>
        clear hcell c2
        obtain ⟨j, bi, hj, rfl, rfl, rfl, hbi, hb1, hb2, hbl⟩ := hrel
        have HBl := hidI hbl
        have HBi := hidI hbi
        have HB2' := hidI hb2
        have HKr : Hid (Kept (fun b => b = w1.heap.size + 1 + 1) w4 wr) := hidI (HK.out.trans (Kept.of_below (S := fun _ => False) hbl) (fun _ _ h => h.elim))
        have hR := HR.out.of_block (hbl.block _ zU)
        clear hbl hbi hb2
        by_cases hjl : j < row.length
        ·obtain ⟨b0, hq0, _⟩ := HC3.out j hjl
         subst hq0
         obtain ⟨_, hA, hrw⟩ := HFacts.out wr HKr.out
         obtain ⟨b0', e1, cp⟩ := HC3.out j hjl
         cases e1
         have cp2 : wr.cell? ⟨b0, j, none⟩ = some (.int .i64 (row[j] : Nat)) := (HBl.out.cell (p := ⟨b0, j, none⟩) (lt_of_cell cp)).trans cp
         have hpn : row[j] < f.blocks.length := row_lt (f := f) (c := b) ((congrArg (fun l => row[j] ∈ l) (HRow.out.symm.trans (congrFun HI.out b))).mp (List.getElem_mem hjl))
         have hbs : (row.take (j + 1)).foldl (bestI v (plN o)) (-1) = bestI v (plN o) bi row[j] := by
          rw [List.take_succ_eq_append_getElem hjl, List.foldl_append, HBi.out]; rfl
         have HBS := hidI hbs
         have cu := hR.cell hpn
         have HT2 : Hid (TreeW wr (w1.heap.size + 1 + 1) w1.heap.size f.blocks.length 3 v (plN o)) := hidI ⟨hR, hA⟩
         clear hrw cp hbs hA hR
         generalize row[j] = pp at *
         have hst := HJ.out.toDomI.step_mk (p := pp) hb1 HB2'.out
         obtain ⟨r, hr⟩ : ∃ r, r = bestI v (plN o) bi pp := ⟨_, rfl⟩
         rw [← hr] at hst
         have HBS2 : Hid ((row.take (j + 1)).foldl (bestI v (plN o)) (-1) = r) := hidI (HBS.out.trans hr.symm)
         have HST := hidI hst
         clear HBS hst
         by_cases hv0 : v pp < 0
         ·have e : r = bi := by rw [hr]; unfold bestI; rw [if_pos hv0]
          subst e
          clear hr
          go_wp2_with fail
          go_roundg (row.length - (j + 1))
          case measure => omega
          case rel => exact ⟨j + 1, r, by omega, rfl, by go_num, rfl, HBS2.out.symm, HST.out.1, HST.out.2, HBl.out⟩
         ·by_cases hbi0 : bi < 0
          ·have e : r = (pp : Int) := by rw [hr]; unfold bestI; rw [if_neg hv0, if_pos hbi0]
           subst e
           clear hr
           go_wp2_with fail
           go_roundg (row.length - (j + 1))
           case measure => omega
           case rel => exact ⟨j + 1, pp, by omega, rfl, by go_num, rfl, HBS2.out.symm, HST.out.1, HST.out.2, HBl.out⟩
          ·obtain ⟨bn, rfl⟩ : ∃ bn : Nat, bi = bn := ⟨bi.toNat, by omega⟩
           have e : r = ((meetN (upN v) (plN o) (plN o bn + plN o pp + 1) bn pp : Nat) : Int) := by
            rw [hr]; unfold bestI; rw [if_neg hv0, if_neg hbi0]; rfl
           have HE := hidI e
           have hm1 : mkN v bn := by simpa using HB2'.out (by omega)
           have hm2 : mkN v pp := by unfold mkN; omega
           have HM1 := hidI hm1
           have HM2 := hidI hm2
           clear hr e hm1 hm2
           go_wp2_with fail
           refine (meet_any HT2.out HJ.out.toDomI HOrd.out.inb bn pp HM1.out HM2.out).mono ?_
           rintro e w5 ⟨rfl, hb5⟩
           rw [← HE.out]
           have HB5 : Hid (Below wa.heap.size wa w5) := hidI (HBl.out.trans (hb5.mono HBl.out.size))
           clear hb5
           go_wp2_with fail
           go_roundg (row.length - (j + 1))
           case measure => omega
           case rel => exact ⟨j + 1, r, by omega, rfl, by go_num, rfl, HBS2.out.symm, HST.out.1, HST.out.2, HB5.out⟩
        ·obtain rfl : j = row.length := by omega
         rw [List.take_length] at HBi
         have hbe : bestsI v (plN o) row = bi := HBi.out.symm
         have hms := HMS.out
         have hrs := HRS.out
         rw [hbe] at hms hrs
         have cu := hR.cell hcn
         have cuf := hR.frozen b
         have HR2 := hidI hR
         have HMS2 := hidI hms
         have HRS2 := hidI hrs
         clear hR hms hrs hbe
         by_cases hvb : v b = bi
         ·have HV := hidI hvb
          clear hvb
          have hvb : v b = bi := HV.out
          go_wp2_with fail
          go_roundg (o.length - 1 - (i + 1))
          case measure => omega
          case rel => exact ⟨i + 1, by omega, rfl, by go_num, by rw [HMS2.out, HV.out]; simp, HR2.out.congr fun c _ => by
           rw [HRS2.out, ← HV.out, putI_same], HKr.out⟩
         ·go_wp2_with fail
          go_roundg (o.length - 1 - (i + 1))
          case measure => omega
          case rel => exact ⟨i + 1, by omega, rfl, by go_num, by rw [HMS2.out]; simp [hvb], (HR2.out.set b (.int .i64 bi)).congr fun c _ => by
           rw [HRS2.out]
           unfold putI
           split <;> rfl, HKr.out.setCell rfl _⟩
      ·have hil : i + 1 = o.length := by omega
       rw [hil] at hR ⊢
       obtain ⟨mo, hmo⟩ : ∃ mo, mo = moreT (plN o) ins o u o.length := ⟨_, rfl⟩
       rw [← hmo]
       have HR := hidI hR
       clear hR
       cases mo with
       | true =>
        have HN := hidI (HL.out.next HOrd.out hmo.symm)
        clear hmo
        go_wp2_with fail
        go_roundg kr
        case measure => omega
        case rel => exact ⟨true, _, rfl, HR.out, HK.out, fun _ => HN.out, fun h => by cases h⟩
       | false =>
        have HN := hidI (HL.out.last HOrd.out hmo.symm)
        clear hmo
        go_wp2_with fail
        go_roundg 0
        case measure => omega
        case rel => exact ⟨false, _, rfl, HR.out, HK.out, (fun h => by cases h), fun _ => ⟨HN.out.1.trans HN.out.2.1, rfl⟩⟩
end Go.Proofs.YtdjamkinijhjoaaDoor
namespace Go.Proofs.YtdjamkinijhjoaaDoor
open Go.RowKit Go.Shelf

section
variable {P : Program} {md : Region.Mode} {ops : Array Oper} {Q : Exit → Act → World → Prop} {S : World → Prop} {z : Nat}
theorem wpAnyZ_firstF {i : Nat} {oi : Oper} {v : Value} (hi : ops[i]? = some oi) (hz : ops.size ≤ z) (hsel : ∀ (j : Nat) (o : Oper) cs b, ops[j]? = some o → o.op ≠ .select cs b)
  (hQ : ∀ c a w, Q (.panic c) (a.put oi.dst v) w → Q (.panic c) a w) :
  ∀ (fuel : Nat) (listed : Array Bool) (a : Act) (w : World),
   (∀ j oj, ops[j]? = some oj → j ≠ i → listed.getD j true = false → (∀ e ∈ oj.after, Region.binds md e = true → e.on ≠ i) → oi.apart ops oj = true) →
   i ∈ Region.ready md ops listed → YieldsIf P ops S oi v a → S w →
   wpAnyZ P md ops Q S z fuel (listed.setIfInBounds i true) (a.put oi.dst v) w → wpAnyZ P md ops Q S z (fuel + 1) listed a w := by
 intro fuel
 induction fuel with
 | zero =>
  intro listed a w _ hr hy hS H
  refine ⟨fun h => (by rw [h] at hr; cases hr), fun j hj => ?_⟩
  by_cases hji : j = i
  ·subst hji; exact hy.wpOp hi hS ⟨fun _ => hS, H⟩
  ·have := ready_mono hj hji
   rw [H.1] at this
   cases this
 | succ fuel ih =>
  intro listed a w hfree hr hy hS H
  refine ⟨fun h => (by rw [h] at hr; cases hr), fun j hj => ?_⟩
  by_cases hji : j = i
  ·subst hji; exact hy.wpOp hi hS ⟨fun _ => hS, H⟩
  ·have h1 := H.2 j (ready_mono hj hji)
   obtain ⟨hjun, oj, hoj, hall⟩ := mem_ready.1 hj
   have hnot : ∀ e ∈ oj.after, Region.binds md e = true → e.on ≠ i := fun e he hb heq => by
    have h1 := hall e he hb
    have h0 := (mem_ready.1 hr).1
    rw [heq] at h1
    rcases Nat.lt_or_ge i listed.size with h' | h'
    ·simp [h'] at h0 h1; rw [h0] at h1; cases h1
    ·simp [Array.getElem?_eq_none h'] at h1
   have hjz : j ≠ z := fun e => by have := (Array.getElem?_eq_some_iff.1 hoj).1; omega
   have h2 := wpOp_putIf hoj (hfree j oj hoj hji hjun hnot) (fun cs b => hsel i oi cs b hi) (fun cs b => hsel j oj cs b hoj) hQ hy h1
   have hfree' : ∀ k ok, ops[k]? = some ok → k ≠ i → (listed.setIfInBounds j true).getD k true = false →
     (∀ e ∈ ok.after, Region.binds md e = true → e.on ≠ i) → oi.apart ops ok = true := fun k ok hk hki hun hno => by
    refine hfree k ok hk hki ?_ hno
    by_cases hjk : j = k
    ·subst hjk; exact hjun
    ·rw [getD_set_ne true hjk] at hun; exact hun
   refine wpOp_mono (fun a' w' h3 => ⟨fun _ => h3.2.1 hjz, ih (listed.setIfInBounds j true) a' w' hfree' (ready_mono hr (Ne.symm hji)) h3.1 (h3.2.1 hjz) ?_⟩) h2
   rw [Array.setIfInBounds_comm _ _ hji]
   exact h3.2.2
theorem wpAnyZ_takeF {i : Nat} {oi : Oper} {v : Value} {fuel : Nat} {listed : Array Bool} {a : Act} {w : World} (hi : ops[i]? = some oi) (hw : ops.size ≤ z)
  (hs : Region.noSelect ops = true) (hf : Region.free md ops listed i = true) (hr : (Region.ready md ops listed).contains i = true)
  (hQ : ∀ c a w, Q (.panic c) (a.put oi.dst v) w → Q (.panic c) a w) (hy : YieldsIf P ops S oi v a) (hS : S w)
  (h : wpAnyZ P md ops Q S z fuel (listed.setIfInBounds i true) (a.put oi.dst v) w) : wpAnyZ P md ops Q S z (fuel + 1) listed a w :=
 wpAnyZ_firstF hi hw (Region.noSelect_spec hs) hQ fuel listed a w (Region.free_spec hi hf) (by simpa using hr) hy hS h
theorem takeF (i d : Nat) (v : Value) {oi : Oper} {fuel : Nat} {listed : Array Bool} {a : Act} {w : World} (hi : ops[i]? = some oi) (hd : oi.dst = some d) (hw : ops.size ≤ z)
  (hs : Region.noSelect ops = true) (hf : Region.free md ops listed i = true) (hr : (Region.ready md ops listed).contains i = true)
  (hQ : ∀ c a w, Q (.panic c) (a.put (some d) v) w → Q (.panic c) a w) (hy : YieldsIf P ops S oi v a) (hS : S w)
  (h : wpAnyZ P md ops Q S z fuel (listed.setIfInBounds i true) (a.put (some d) v) w) : wpAnyZ P md ops Q S z (fuel + 1) listed a w :=
 wpAnyZ_takeF hi hw hs hf hr (by rw [hd]; exact hQ) hy hS (by rw [hd]; exact h)
end
end Go.Proofs.YtdjamkinijhjoaaDoor
