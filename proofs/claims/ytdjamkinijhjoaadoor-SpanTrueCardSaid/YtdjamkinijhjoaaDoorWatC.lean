/-
  The contract of turnerylaw5.Watched.
-/
import Derived.Deep.LoopGhost
import Derived.WalkKit
import Derived.WalkSpells
import Derived.WalkLawsBesides
import Derived.Test.YtdjamkinijhjoaaDoorJWatB
import Derived.Test.YtdjamkinijhjoaaDoorRcC
namespace Go.Proofs.YtdjamkinijhjoaaDoor
open Go.RowKit Go.Shelf

theorem flat_le {α β : Type} {g : α → List β} {n : Nat} (h : ∀ x, (g x).length ≤ n) : ∀ l : List α, (l.flatMap g).length ≤ n * l.length
 | [] => by simp
 | x :: l => by
  have := flat_le h l
  have := h x
  rw [List.flatMap_cons, List.length_append, List.length_cons, Nat.mul_succ]
  omega
theorem watP_len (kk : Bool) (r : Int) (p : PhiL) : (watP kk r p).length ≤ 1 := by unfold watP; split <;> simp
theorem watI_len (kk : Bool) (r : Int) (x : InsL) : (watI kk r x).length ≤ 2 := by
 unfold watI
 split
 ·simp
 ·split <;> simp
theorem shwE (A : Blks) (W : World) {r : Int} (hr : I64 r) : InsE A W W [.int .i64 22, .int .i64 (-1), .bool true, .int .i64 r, .bool false, .int .i64 0, .int .i64 0, .slice none 0 0] (shwI r) (fun _ => False) :=
 ⟨⟨.slice none 0 0, rfl, (by unfold I64; show _ ≤ (22 : Int) ∧ (22 : Int) ≤ _; omega), (by unfold I64; show _ ≤ (-1 : Int) ∧ (-1 : Int) ≤ _; omega), hr, (by unfold I64; show _ ≤ (0 : Int) ∧ (0 : Int) ≤ _; omega), (by unfold I64; show _ ≤ (0 : Int) ∧ (0 : Int) ≤ _; omega), fun _ _ => ⟨none, 0, rfl, fun _ => ⟨rfl, rfl⟩, Nat.le_refl _, by simp [shwI], .inl rfl⟩⟩, fun _ h => h⟩
theorem infoInsW : (Tryd.prog.info? 53).map (fun i => (i.zero, i.size, i.bytes)) = some (some (.agg #[.int .i64 0, .int .i64 0, .bool false, .int .i64 0, .bool false, .int .i64 0, .int .i64 0, .slice none 0 0]), 8, 80) := by kernel_rfl
set_option maxRecDepth 100000 in
set_option maxHeartbeats 16000000 in
theorem watched_any (u : UniL) (K : Nat) (r : Int) (gp fp : Option Addr) (gc fc : Nat) (w : World) (hG : SlF w 3 48 (GloR w) (.slice gp u.globals.length gc) u.globals) (hF : SlF w 4 56 (FunR w) (.slice fp u.funcs.length fc) u.funcs) (hr : I64 r)
  (hn0 : 0 < u.funcs.length) (hn : u.funcs.length ≤ 1000000) (hb0 : ∀ k (h : k < u.funcs.length), 0 < (u.funcs[k]).blocks.length) (hmany : ∀ k (h : k < u.funcs.length), ∀ b ∈ (u.funcs[k]).blocks, b.phis.length + b.list.length ≤ 300) :
  Calls Tryd.prog 19 #[.agg #[.slice gp u.globals.length gc, .slice fp u.funcs.length fc], .int .i64 K, .int .i64 r] w fun e w' => (∃ p1 c1 p2 c2 fd, e = .returned (.tuple #[.agg #[.slice p1 u.globals.length c1, .slice p2 u.funcs.length c2], .bool fd]) ∧
   SliceAt w' 3 (GloR w') p1 u.globals ∧ SliceAt w' 4 (FunR w') p2 (watU u K r).funcs) ∧ Below w.heap.size w w' := by
 have HG := hidI hG
 have HF := hidI hF
 have HMany := hidI hmany
 have HB0 := hidI hb0
 have Hr := hidI hr
 clear hG hF hmany hb0 hr
 go_enter Tryd.func19, Tryd.ntmps19
 go_wp2_with fail
 have hb0' : Below w.heap.size w ((w.alloc (.cells #[.slice gp u.globals.length gc, .slice fp u.funcs.length fc] 25)).alloc (.cells #[.slice none 0 0, .slice none 0 0] 25)) := by repeat (first | (with_reducible first | exact bR _ _ | exact bH ‹_› | refine bD ?_ | refine bN ?_ _ | refine bS ?_ ?_ _ | refine bA ?_ ?_ _ | refine bT hb3 ?_ ?_ | refine bT hb5 ?_ ?_ | refine bT hb4 ?_ ?_) | omega | (simp; omega) | simp)
 refine (cloneU_any u gp fp gc fc _ (HG.out.mono hb0' (by omega) fun _ _ h => h.below hb0') (HF.out.mono hb0' (by omega) fun _ _ h => h.below hb0')).mono ?_
 rintro e w1 ⟨⟨p1, c1, p2, c2, rfl, S, hO, hS⟩, hb1⟩
 have HB1 : Hid (Below w.heap.size w w1) := hidI (hb0'.trans (hb1.mono (by simp; omega)))
 have hR1 := heap_below hb1 (k := w.heap.size + 1) (by simp) (heap_at (w := w.alloc (.cells #[.slice gp u.globals.length gc, .slice fp u.funcs.length fc] 25)) (o := .cells #[.slice none 0 0, .slice none 0 0] 25) (by simp))
 have HR1 := hidI hR1
 have hz1 : w.heap.size + 1 < w1.heap.size := by have := hb1.size; simp at this; omega
 obtain ⟨v1, v2, S1, S2, hcs, qG, qF, a12, s1, s2⟩ := hO
 injection hcs with hcs1 hcs2
 injection hcs2 with hcs2 _
 subst hcs1 hcs2
 have HLo : Hid (∀ g, S g → w.heap.size + 1 < g) := hidI fun g hg => by have := hS g hg; simp at this; omega
 have HQG := hidI qG
 have HQF := hidI qF
 have HS1 := hidI s1
 have HS2 := hidI s2
 have HA12 := hidI a12
 clear hb1 hb0' hS qG qF a12 s1 s2 hR1
 go_wp2_with fail
 --LOOPS
 obtain ⟨W2, hW2⟩ : ∃ W2, W2 = (w1.alloc (.cells #[.slice p1 u.globals.length c1, .slice p2 u.funcs.length c2] 25)).alloc (.cells #[.int .i64 22, .int .i64 (-1), .bool true, .int .i64 r, .bool false, .int .i64 0, .int .i64 0, .slice none 0 0] 53) := ⟨_, rfl⟩
 rw [← hW2]
 have hb2 : Below w1.heap.size w1 W2 := by rw [hW2]; repeat (first | (with_reducible first | exact bR _ _ | exact bH ‹_› | refine bD ?_ | refine bN ?_ _ | refine bS ?_ ?_ _ | refine bA ?_ ?_ _ | refine bT hb3 ?_ ?_ | refine bT hb5 ?_ ?_ | refine bT hb4 ?_ ?_) | omega | (simp; omega) | simp)
 have HB2 := hidI hb2
 have hUb : W2.heap[w1.heap.size]? = some (.cells #[.slice p1 u.globals.length c1, .slice p2 u.funcs.length c2] 25 (0, 0)) := by rw [hW2]; exact heap_step (heap_here w1 _)
 have hSb : W2.heap[w1.heap.size + 1]? = some (.cells #[.int .i64 22, .int .i64 (-1), .bool true, .int .i64 r, .bool false, .int .i64 0, .int .i64 0, .slice none 0 0] 53 (0, 0)) := by rw [hW2]; exact heap_at (by simp)
 have hRb : W2.heap[w.heap.size + 1]? = some (.cells #[.slice none 0 0, .slice none 0 0] 25 (0, 0)) := (hb2.block _ (ltHeap HR1.out)).trans HR1.out
 obtain ⟨G, c', hv, hU, hSG, hSB⟩ := uniN_of (HQF.out.sl.below locFun hb2) hn0 HB0.out (fun g => g = w.heap.size + 1) (fun g hg e => by have := HLo.out g (HS2.out g hg); omega) (fun g e => by have := hb2.size; omega)
 have hp2 : p2 = some ⟨G, 0, none⟩ := by injection hv
 subst hp2
 have hInb := HQF.out.sl.inb
 have hBB : ∀ k, k < u.funcs.length → w.heap.size + 1 < bbW W2 G k ∧ bbW W2 G k < w1.heap.size := fun k hk => ⟨HLo.out _ (HS2.out _ (hSB k hk)), hInb _ (hSB k hk)⟩
 have hAlt : ∀ g, aW W2 G u.funcs.length (fun g => g = w.heap.size + 1) g → w.heap.size + 1 ≤ g ∧ g < w1.heap.size ∧ (g = w.heap.size + 1 ∨ S2 g) := fun g hg => by
  rcases hg with ⟨k, hk, rfl⟩ | e
  ·have h1 := hSB k hk
   have h2 := hBB k hk
   exact ⟨by omega, h2.2, .inr h1⟩
  ·exact ⟨by omega, by omega, .inl e⟩
 have hBA : aW W2 G u.funcs.length (fun g => g = w.heap.size + 1) (w.heap.size + 1) := .inr rfl
 have hGlt : w.heap.size + 1 < G ∧ G < w1.heap.size := ⟨HLo.out _ (HS2.out _ hSG), hInb _ hSG⟩
 generalize aW W2 G u.funcs.length (fun g => g = w.heap.size + 1) = A at *
 generalize bbW W2 G = bb at *
 have HU := hidI hU
 have HUb := hidI hUb
 have HSb := hidI hSb
 have HRb := hidI hRb
 have HAlt := hidI hAlt
 have HBB := hidI hBB
 have HBA := hidI hBA
 have HGlt := hidI hGlt
 obtain ⟨iI, l1, l2, l3, l4⟩ := info_parts infoInsW
 have HI := hidI (And.intro l1 (And.intro l2 (And.intro l3 l4)))
 clear hU hUb hSb hRb hAlt hBB hBA hGlt hInb hSG hSB hv hW2 hb2 HR1 l1 l2 l3 l4
 go_loopg [10, 11] u.funcs.length (fun q s10 s11 wr => ∃ (i : Nat) (fd : Bool), i ≤ u.funcs.length ∧ q = u.funcs.length - i ∧ s10 = .bool fd ∧ s11 = .int .i64 i ∧ WSt A W2 bb u.funcs K r i 0 wr ∧ wr.heap[w.heap.size + 1]? = some (.cells #[.slice none 0 0, .slice none 0 0] 25 (0, 0)))
 case atStart => exact ⟨0, false, by omega, rfl, rfl, rfl, WSt.start HU.out, HRb.out⟩
 case round =>
  obtain ⟨i, fd, hi, rfl, rfl, rfl, hw, hrb⟩ := hrel
  have HWt := hidI hw
  have HRw := hidI hrb
  have hu1 := (blk ((hw.kept.block _ (ltHeap HUb.out) (fun ha => by have := (HAlt.out _ ha).2.1; omega)).trans HUb.out)).1 1
  have zu : w1.heap.size < wr.heap.size := by have := hw.kept.size; have := ltHeap HUb.out; omega
  simp only [List.getElem?_toArray, List.getElem?_cons_zero, List.getElem?_cons_succ] at hu1
  clear hw hrb
  by_cases hlt : i < u.funcs.length
  ·obtain ⟨f, hfe⟩ : ∃ f, f = u.funcs[i] := ⟨_, rfl⟩
   have hF := HU.out.fn i hlt
   rw [← hfe] at hF
   obtain ⟨cb, hcb, hfc⟩ := hF.cell
   have f3 : wr.cell? ⟨G, i * 4 + 3, none⟩ = some (.slice (some ⟨bb i, 0, none⟩) f.blocks.length cb) := (HWt.out.kept.cell (p := ⟨G, i * 4 + 3, none⟩) HU.out.g HU.out.gA).trans (hfc 3 (by omega))
   have zG := Nat.lt_of_lt_of_le HU.out.g HWt.out.kept.size
   have HFn := hidI hF
   have HFe := hidI hfe
   have HMy : Hid (∀ b ∈ f.blocks, b.phis.length + b.list.length ≤ 300) := hidI (by rw [hfe]; exact HMany.out i hlt)
   have hbd := hF.bd
   unfold reachBytes at hbd
   clear hF hfc hfe
   go_wp2_with fail
   clear f3 zG hu1 zu
   go_loopg [10, 12] f.blocks.length (fun q s10 s12 wr => ∃ (b : Nat) (fd : Bool), b ≤ f.blocks.length ∧ q = f.blocks.length - b ∧ s10 = .bool fd ∧ s12 = .int .i64 b ∧ WSt A W2 bb u.funcs K r i b wr ∧ wr.heap[w.heap.size + 1]? = some (.cells #[.slice none 0 0, .slice none 0 0] 25 (0, 0)))
   case atStart => exact ⟨0, fd, by omega, rfl, rfl, rfl, HWt.out, HRw.out⟩
   case round =>
    clear HWt HRw
    obtain ⟨b, fd, hb, rfl, rfl, rfl, hw, hrb⟩ := hrel
    have HWt := hidI hw
    have HRw := hidI hrb
    have hu1 := (blk ((hw.kept.block _ (ltHeap HUb.out) (fun ha => by have := (HAlt.out _ ha).2.1; omega)).trans HUb.out)).1 1
    have zu : w1.heap.size < wr.heap.size := by have := hw.kept.size; have := ltHeap HUb.out; omega
    simp only [List.getElem?_toArray, List.getElem?_cons_zero, List.getElem?_cons_succ] at hu1
    have zG := Nat.lt_of_lt_of_le HU.out.g hw.kept.size
    obtain ⟨cb2, _, hfc⟩ := HFn.out.cell
    have f3 : wr.cell? ⟨G, i * 4 + 3, none⟩ = some (.slice (some ⟨bb i, 0, none⟩) f.blocks.length cb2) := (hw.kept.cell (p := ⟨G, i * 4 + 3, none⟩) HU.out.g HU.out.gA).trans (hfc 3 (by omega))
    clear hw hrb hfc
    by_cases hbl : b < f.blocks.length
    ·obtain ⟨v1, v2, v3, hB⟩ := HFn.out.blk b hbl
     have x0 := (HWt.out.same i b 0 hlt (by omega) (.inl (by omega))).trans (hB.cell 0 (by omega))
     have x1 := (HWt.out.same i b 1 hlt (by omega) (.inr (.inr ⟨rfl, Nat.le_refl _⟩))).trans (hB.cell 1 (by omega))
     have xf := HWt.out.froz i (b * 6 + 1) hlt
     simp only [List.getElem?_cons_zero, List.getElem?_cons_succ] at x0 x1
     have hPs := hB.phi wr HWt.out.kept
     obtain ⟨pp, pc, hpv, hpl, hPh⟩ := hPs.out
     subst hpv
     obtain ⟨lp, lc, hlv, hlnn, hlcc⟩ := hB.val
     subst hlv
     have hmy := HMy.out _ (List.getElem_mem hbl)
     have HLst := hidI hB.lst
     have HPh := hidI hPh
     have hbe : u.funcs[i].blocks[b]'(by rw [← HFe.out]; exact hbl) = f.blocks[b] := by simp only [HFe.out]
     have HBe := hidI hbe
     clear hB hPs hPh hbe
     generalize hBb : f.blocks[b] = B at *
     have zS := lt_of_cell x0
     go_wp2_with fail
     obtain ⟨wS, hwS⟩ : ∃ wS, wS = wr := ⟨_, rfl⟩
     have HWS : Hid (WSt A W2 bb u.funcs K r i b wS) := hidI (by rw [hwS]; exact HWt.out)
     have HRS : Hid (wS.heap[w.heap.size + 1]? = some (.cells #[.slice none 0 0, .slice none 0 0] 25 (0, 0))) := hidI (by rw [hwS]; exact HRw.out)
     have HX0 : Hid (wS.cell? ⟨bb i, b * 6, none⟩ = some (.slice pp B.phis.length pc)) := hidI (by rw [hwS]; exact x0)
     have HX1 : Hid (wS.cell? ⟨bb i, b * 6 + 1, none⟩ = some (.slice lp B.list.length lc)) := hidI (by rw [hwS]; exact x1)
     have HXf : Hid (wS.frozen? ⟨bb i, b * 6 + 1, none⟩ = false) := hidI (by rw [hwS]; exact xf)
     have HPS : Hid (SliceAt wS 2 (PhiR wS) pp B.phis) := hidI (by rw [hwS]; exact HPh.out)
     have hsS : wS.heap[w1.heap.size + 1]? = some (.cells #[.int .i64 22, .int .i64 (-1), .bool true, .int .i64 r, .bool false, .int .i64 0, .int .i64 0, .slice none 0 0] 53 (0, 0)) := by rw [hwS]; exact (HWt.out.kept.block _ (ltHeap HSb.out) (fun ha => by have := (HAlt.out _ ha).2.1; omega)).trans HSb.out
     have HSS := hidI hsS
     have hS2 : W2.heap.size ≤ wS.heap.size := by rw [hwS]; exact HWt.out.kept.size
     have hB0 : Below wS.heap.size wS wr := by rw [hwS]; exact Below.refl _ _
     clear HWt HRw x0 x1 xf HPh hsS f3 zG hu1 zu zS
     go_loopg [10, 14, 15] B.phis.length (fun q s10 s14 s15 wr => ∃ (j : Nat) (fd : Bool) (S : Blks), j ≤ B.phis.length ∧ q = B.phis.length - j ∧ s10 = .bool fd ∧ s15 = .int .i64 j ∧ SlO 53 8 (InsE A W2) wr s14 ((B.phis.take j).flatMap (watP (decide (i = K)) r)) S ∧ (∀ g, S g → wS.heap.size ≤ g) ∧ Below wS.heap.size wS wr)
     case atStart => exact ⟨0, fd, fun _ => False, by omega, rfl, rfl, rfl, by rw [List.take_zero, List.flatMap_nil]; exact SlO.nil _ _ _ _ (fun _ h => h.elim), fun _ h => h.elim, hB0⟩
     case round =>
      clear hB0 hwS
      obtain ⟨j, fd, S, hj, rfl, rfl, rfl, hO2, hL, hbw⟩ := hrel
      obtain ⟨vp, vc, rfl, hvn, hvc⟩ := hO2.val
      have HO2 := hidI hO2
      have HL := hidI hL
      have HBw := hidI hbw
      have x0 := (hbw.cell (p := ⟨bb i, b * 6, none⟩) (lt_of_cell HX0.out)).trans HX0.out
      have x1 := (hbw.cell (p := ⟨bb i, b * 6 + 1, none⟩) (lt_of_cell HX1.out)).trans HX1.out
      have xz := lt_of_cell x0
      have hsb := blk ((hbw.block _ (ltHeap HSS.out)).trans HSS.out)
      have y0 := hsb.1 0
      have y1 := hsb.1 1
      have y2 := hsb.1 2
      have y3 := hsb.1 3
      have y4 := hsb.1 4
      have y5 := hsb.1 5
      have y6 := hsb.1 6
      have y7 := hsb.1 7
      have yz := lt_of_cell y0
      simp only [List.getElem?_toArray, List.getElem?_cons_zero, List.getElem?_cons_succ] at y0 y1 y2 y3 y4 y5 y6 y7
      have hfl := flat_le (watP_len (decide (i = K)) r) (B.phis.take j)
      rw [List.length_take] at hfl
      clear hO2 hL hbw hsb
      by_cases hjl : j < B.phis.length
      ·obtain ⟨pb, po, pq, pc2, hpq, d0, d1, _, _, hSrc⟩ := phiGet HPS.out HBw.out hjl
       subst hpq
       have hzp := lt_of_cell d0
       have HTk : Hid ((B.phis.take (j + 1)).flatMap (watP (decide (i = K)) r) = (B.phis.take j).flatMap (watP (decide (i = K)) r) ++ watP (decide (i = K)) r B.phis[j]) := hidI (by rw [List.take_succ_eq_append_getElem hjl, List.flatMap_append]; simp)
       clear hSrc d1
       generalize B.phis[j] = p at *
       by_cases hik : i = K
       ·by_cases hdr : p.dst = r
        ·have hk1 : ((i : Int) == (K : Int)) = true := by simp [hik]
         have HIk := hidI hik
         clear hik
         have hd1 : (p.dst == r) = true := by simp [hdr]
         have HDr := hidI hdr
         clear hdr
         have hw1 : watP (decide (i = K)) r p = [shwI r] := by unfold watP; rw [if_pos ⟨decide_eq_true HIk.out, HDr.out⟩]
         rw [hw1] at HTk
         have hb3 : Below wr.heap.size wr (wr.alloc (.cells #[.int .i64 22, .int .i64 (-1), .bool true, .int .i64 r, .bool false, .int .i64 0, .int .i64 0, .slice none 0 0] 53)) := by repeat (first | (with_reducible first | exact bR _ _ | exact bH ‹_› | refine bD ?_ | refine bN ?_ _ | refine bS ?_ ?_ _ | refine bA ?_ ?_ _ | refine bT hb3 ?_ ?_ | refine bT hb5 ?_ ?_ | refine bT hb4 ?_ ?_) | omega | (simp; omega) | simp)
         have HO3 := hidI (HO2.out.below (locInsE A W2) hb3)
         clear hb3
         obtain ⟨l1, l2, l3, l4⟩ := HI.out
         go_wp2_with (at_builtin; refine wpList_append_slo _ rfl _ _ 43 rfl 53 iI _ 8 80 Tryd.underlying43 l1 l2 l3 l4 rfl (by decide) (locInsE A W2) rfl HO3.out ⟨wr.heap.size, 0, none⟩ 1 [.int .i64 22, .int .i64 (-1), .bool true, .int .i64 r, .bool false, .int .i64 0, .int .i64 0, .slice none 0 0] (shwI r) rfl rfl ?hn ?ho (T := fun _ => False) (shwE A W2 Hr.out) ?ha ?ht ?hm ?hb ?_)
         case hn => exact cells_new _ _ _ rfl
         case ho => intro u hu; simp only [List.mem_cons, List.not_mem_nil, or_false] at hu; rcases hu with rfl | rfl | rfl | rfl | rfl | rfl | rfl | rfl <;> rfl
         case ha => exact fun k h1 h2 => h2
         case ht => exact fun k h => h.elim
         case hm => unfold maxLen; first | omega | (simp only [List.length_append, List.length_cons, List.length_nil]; omega)
         case hb => first | omega | (simp only [List.length_append, List.length_cons, List.length_nil]; omega)
         intro v8 w8 ⟨S8, hO8, hsub, hK8⟩
         have hb8 : Below wS.heap.size wS w8 := (HBw.out.trans ((show Below wr.heap.size wr (wr.alloc (.cells #[.int .i64 22, .int .i64 (-1), .bool true, .int .i64 r, .bool false, .int .i64 0, .int .i64 0, .slice none 0 0] 53)) by repeat (first | (with_reducible first | exact bR _ _ | exact bH ‹_› | refine bD ?_ | refine bN ?_ _ | refine bS ?_ ?_ _ | refine bA ?_ ?_ _ | refine bT hb3 ?_ ?_ | refine bT hb5 ?_ ?_ | refine bT hb4 ?_ ?_) | omega | (simp; omega) | simp)).mono HBw.out.size)).trans (hK8.below (by have := HBw.out.size; simp; omega) HL.out)
         have HB8 := hidI hb8
         have HL8 : Hid (∀ g, S8 g → wS.heap.size ≤ g) := hidI fun g hg => by
          rcases hsub g hg with h | h | h
          ·exact HL.out g h
          ·exact h.elim
          ·have := HBw.out.size; simp at h; omega
         have HO8 := hidI hO8
         clear hO8 hsub hK8 hb8 HO3 l1 l2 l3 l4
         go_wp2_with fail
         go_roundg (B.phis.length - (j + 1))
         case measure => omega
         case rel => exact ⟨j + 1, true, S8, by omega, rfl, rfl, by go_num, by rw [HTk.out]; exact HO8.out, HL8.out, HB8.out⟩
        ·have hk1 : ((i : Int) == (K : Int)) = true := by simp [hik]
         have HIk := hidI hik
         clear hik
         have hd1 : (p.dst == r) = false := by simp [hdr]
         have HDr := hidI hdr
         clear hdr
         have hw0 : watP (decide (i = K)) r p = [] := by unfold watP; rw [if_neg (fun h => HDr.out h.2)]
         rw [hw0, List.append_nil] at HTk
         go_wp2_with fail
         go_roundg (B.phis.length - (j + 1))
         case measure => omega
         case rel => exact ⟨j + 1, fd, S, by omega, rfl, rfl, by go_num, by rw [HTk.out]; exact HO2.out, HL.out, HBw.out⟩
       ·have hk1 : ((i : Int) == (K : Int)) = false := by simp; omega
        have HIk := hidI hik
        clear hik
        have hw0 : watP (decide (i = K)) r p = [] := by unfold watP; rw [if_neg (fun h => HIk.out (of_decide_eq_true h.1))]
        rw [hw0, List.append_nil] at HTk
        go_wp2_with fail
        go_roundg (B.phis.length - (j + 1))
        case measure => omega
        case rel => exact ⟨j + 1, fd, S, by omega, rfl, rfl, by go_num, by rw [HTk.out]; exact HO2.out, HL.out, HBw.out⟩
      ·obtain rfl : j = B.phis.length := by omega
       rw [List.take_length] at HO2 hfl hvn hvc ⊢
       generalize hPP : B.phis.flatMap (watP (decide (i = K)) r) = PP at *
       go_wp2_with fail
       clear x0 x1 xz y0 y1 y2 y3 y4 y5 y6 y7 yz
       go_loopg [10, 14, 16] B.list.length (fun q s10 s14 s16 wr => ∃ (j : Nat) (fd : Bool) (S : Blks), j ≤ B.list.length ∧ q = B.list.length - j ∧ s10 = .bool fd ∧ s16 = .int .i64 j ∧ SlO 53 8 (InsE A W2) wr s14 (PP ++ (B.list.take j).flatMap (watI (decide (i = K)) r)) S ∧ (∀ g, S g → wS.heap.size ≤ g) ∧ Below wS.heap.size wS wr)
       case atStart => exact ⟨0, fd, S, by omega, rfl, rfl, rfl, by rw [List.take_zero, List.flatMap_nil, List.append_nil]; exact HO2.out, HL.out, HBw.out⟩
       case round =>
        clear HO2 HL HBw hvn hvc
        obtain ⟨j, fd, S, hj, rfl, rfl, rfl, hO2, hL, hbw⟩ := hrel
        obtain ⟨vp, vc, rfl, hvn, hvc⟩ := hO2.val
        have HO2 := hidI hO2
        have HL := hidI hL
        have HBw := hidI hbw
        have hfl2 := flat_le (watI_len (decide (i = K)) r) (B.list.take j)
        rw [List.length_take] at hfl2
        clear hO2 hL hbw
        have x1 := (HBw.out.cell (p := ⟨bb i, b * 6 + 1, none⟩) (lt_of_cell HX1.out)).trans HX1.out
        have xz := lt_of_cell x1
        have hsb := blk ((HBw.out.block _ (ltHeap HSS.out)).trans HSS.out)
        have y0 := hsb.1 0
        have y1 := hsb.1 1
        have y2 := hsb.1 2
        have y3 := hsb.1 3
        have y4 := hsb.1 4
        have y5 := hsb.1 5
        have y6 := hsb.1 6
        have y7 := hsb.1 7
        have yz := lt_of_cell y0
        simp only [List.getElem?_toArray, List.getElem?_cons_zero, List.getElem?_cons_succ] at y0 y1 y2 y3 y4 y5 y6 y7
        clear hsb
        by_cases hjl : j < B.list.length
        ·obtain ⟨lb, lc2, cs, hlv, hlbz, hlbA, hcl, hcc, hC⟩ := HLst.out j hjl
         have hlp : lp = some ⟨lb, 0, none⟩ := by injection hlv
         subst hlp
         clear hlv
         obtain ⟨va, hcs, y1', y2', y3', y4', y5', hva⟩ := id hC
         obtain ⟨aq, ac, hva2, _⟩ := (hva W2 (Kept.refl _ _)).out
         subst hva2
         subst hcs
         have HC := hidI hC
         have hcS : ∀ t, t < 8 → wS.cell? ⟨lb, j * 8 + t, none⟩ = [.int .i64 (B.list[j]).op, .int .i64 (B.list[j]).dst, .bool (B.list[j]).ar, .int .i64 (B.list[j]).an, .bool (B.list[j]).br, .int .i64 (B.list[j]).bn, .int .i64 (B.list[j]).fn, .slice aq (B.list[j]).args.length ac][t]? := fun t ht => (HWS.out.kept.cell (p := ⟨lb, j * 8 + t, none⟩) hlbz hlbA).trans (hcc t ht)
         have hcw : ∀ t, t < 8 → wr.cell? ⟨lb, j * 8 + t, none⟩ = [.int .i64 (B.list[j]).op, .int .i64 (B.list[j]).dst, .bool (B.list[j]).ar, .int .i64 (B.list[j]).an, .bool (B.list[j]).br, .int .i64 (B.list[j]).bn, .int .i64 (B.list[j]).fn, .slice aq (B.list[j]).args.length ac][t]? := fun t ht => (HBw.out.cell (p := ⟨lb, j * 8 + t, none⟩) (Nat.lt_of_lt_of_le hlbz hS2)).trans (hcS t ht)
         have i0 := hcw 0 (by omega)
         have i1 := hcw 1 (by omega)
         have i2 := hcw 2 (by omega)
         have i3 := hcw 3 (by omega)
         have i4 := hcw 4 (by omega)
         have i5 := hcw 5 (by omega)
         have i6 := hcw 6 (by omega)
         have i7 := hcw 7 (by omega)
         have hi1 := hcS 1 (by omega)
         simp only [List.getElem?_cons_zero, List.getElem?_cons_succ, Nat.add_zero] at i0 i1 i2 i3 i4 i5 i6 i7 hi1
         have HI1 := hidI hi1
         have zi := lt_of_cell i0
         have HTk : Hid ((B.list.take (j + 1)).flatMap (watI (decide (i = K)) r) = (B.list.take j).flatMap (watI (decide (i = K)) r) ++ watI (decide (i = K)) r B.list[j]) := hidI (by rw [List.take_succ_eq_append_getElem hjl, List.flatMap_append]; simp)
         clear hC hcS hcw hcc hcl hva y1' y2' y3' y4' y5' hi1
         generalize B.list[j] = x at *
         by_cases h22 : x.op = 22
         ·have hw0 : watI (decide (i = K)) r x = [] := by unfold watI; rw [if_pos h22]
          have h1 : (x.op == 22) = true := by simp [h22]
          rw [hw0, List.append_nil] at HTk
          go_wp2_with fail
          go_roundg (B.list.length - (j + 1))
          case measure => omega
          case rel => exact ⟨j + 1, fd, S, by omega, rfl, rfl, by go_num, by rw [HTk.out]; exact HO2.out, HL.out, HBw.out⟩
         ·have h1 : (x.op == 22) = false := by simp [h22]
          by_cases hik : i = K
          ·by_cases hdr : x.dst = r
           ·have hk1 : ((i : Int) == (K : Int)) = true := by simp [hik]
            have HIk := hidI hik
            clear hik
            have hd1 : (x.dst == r) = true := by simp [hdr]
            have HDr := hidI hdr
            clear hdr
            have hw1 : watI (decide (i = K)) r x = [x, shwI r] := by unfold watI; rw [if_neg h22, if_pos ⟨decide_eq_true HIk.out, HDr.out⟩]
            rw [hw1] at HTk
            have hb3 : Below wr.heap.size wr (wr.alloc (.cells #[.int .i64 x.op, .int .i64 x.dst, .bool x.ar, .int .i64 x.an, .bool x.br, .int .i64 x.bn, .int .i64 x.fn, .slice aq x.args.length ac] 53)) := by repeat (first | (with_reducible first | exact bR _ _ | exact bH ‹_› | refine bD ?_ | refine bN ?_ _ | refine bS ?_ ?_ _ | refine bA ?_ ?_ _ | refine bT hb3 ?_ ?_ | refine bT hb5 ?_ ?_ | refine bT hb4 ?_ ?_) | omega | (simp; omega) | simp)
            have HO3 := hidI (HO2.out.below (locInsE A W2) hb3)
            clear hb3
            obtain ⟨l1, l2, l3, l4⟩ := HI.out
            go_wp2_with (at_builtin; refine wpList_append_slo _ rfl _ _ 43 rfl 53 iI _ 8 80 Tryd.underlying43 l1 l2 l3 l4 rfl (by decide) (locInsE A W2) rfl HO3.out ⟨wr.heap.size, 0, none⟩ 1 [.int .i64 x.op, .int .i64 x.dst, .bool x.ar, .int .i64 x.an, .bool x.br, .int .i64 x.bn, .int .i64 x.fn, .slice aq x.args.length ac] (x) rfl rfl ?hn ?ho (T := fun _ => False) (⟨HC.out, fun _ h => h⟩) ?ha ?ht ?hm ?hb ?_)
            case hn => exact cells_new _ _ _ rfl
            case ho => intro u hu; simp only [List.mem_cons, List.not_mem_nil, or_false] at hu; rcases hu with rfl | rfl | rfl | rfl | rfl | rfl | rfl | rfl <;> rfl
            case ha => exact fun k h1 h2 => h2
            case ht => exact fun k h => h.elim
            case hm => unfold maxLen; first | omega | (simp only [List.length_append]; omega)
            case hb => first | omega | (simp only [List.length_append]; omega)
            intro v8 w8 ⟨S8, hO8, hsub, hK8⟩
            have hb8 : Below wS.heap.size wS w8 := (HBw.out.trans ((show Below wr.heap.size wr (wr.alloc (.cells #[.int .i64 x.op, .int .i64 x.dst, .bool x.ar, .int .i64 x.an, .bool x.br, .int .i64 x.bn, .int .i64 x.fn, .slice aq x.args.length ac] 53)) by repeat (first | (with_reducible first | exact bR _ _ | exact bH ‹_› | refine bD ?_ | refine bN ?_ _ | refine bS ?_ ?_ _ | refine bA ?_ ?_ _ | refine bT hb3 ?_ ?_ | refine bT hb5 ?_ ?_ | refine bT hb4 ?_ ?_) | omega | (simp; omega) | simp)).mono HBw.out.size)).trans (hK8.below (by have := HBw.out.size; simp; omega) HL.out)
            have HB8 := hidI hb8
            have HL8 : Hid (∀ g, S8 g → wS.heap.size ≤ g) := hidI fun g hg => by
             rcases hsub g hg with h | h | h
             ·exact HL.out g h
             ·exact h.elim
             ·have := HBw.out.size; simp at h; omega
            have HO8 := hidI hO8
            clear hO8 hsub hK8 hb8 HO3 l1 l2 l3 l4
            replace x1 := (HB8.out.cell (p := ⟨bb i, b * 6 + 1, none⟩) (lt_of_cell HX1.out)).trans HX1.out
            replace xz := lt_of_cell x1
            replace i1 := (HB8.out.cell (p := ⟨lb, j * 8 + 1, none⟩) (lt_of_cell HI1.out)).trans HI1.out
            replace zi := lt_of_cell i1
            have hsb := blk ((HB8.out.block _ (ltHeap HSS.out)).trans HSS.out)
            replace y0 := hsb.1 0
            replace y1 := hsb.1 1
            replace y2 := hsb.1 2
            replace y3 := hsb.1 3
            replace y4 := hsb.1 4
            replace y5 := hsb.1 5
            replace y6 := hsb.1 6
            replace y7 := hsb.1 7
            replace yz := lt_of_cell y0
            simp only [List.getElem?_toArray, List.getElem?_cons_zero, List.getElem?_cons_succ] at y0 y1 y2 y3 y4 y5 y6 y7
            clear hsb i0 i2 i3 i4 i5 i6 i7
            obtain ⟨vp8, vc8, hv8e, _, _⟩ := HO8.out.val
            subst hv8e
            have hb3 : Below w8.heap.size w8 (w8.alloc (.cells #[.int .i64 22, .int .i64 (-1), .bool true, .int .i64 r, .bool false, .int .i64 0, .int .i64 0, .slice none 0 0] 53)) := by repeat (first | (with_reducible first | exact bR _ _ | exact bH ‹_› | refine bD ?_ | refine bN ?_ _ | refine bS ?_ ?_ _ | refine bA ?_ ?_ _ | refine bT hb3 ?_ ?_ | refine bT hb5 ?_ ?_ | refine bT hb4 ?_ ?_) | omega | (simp; omega) | simp)
            have HO5 := hidI (HO8.out.below (locInsE A W2) hb3)
            clear hb3
            obtain ⟨l1, l2, l3, l4⟩ := HI.out
            go_wp2_with (at_builtin; refine wpList_append_slo _ rfl _ _ 43 rfl 53 iI _ 8 80 Tryd.underlying43 l1 l2 l3 l4 rfl (by decide) (locInsE A W2) rfl HO5.out ⟨w8.heap.size, 0, none⟩ 1 [.int .i64 22, .int .i64 (-1), .bool true, .int .i64 r, .bool false, .int .i64 0, .int .i64 0, .slice none 0 0] (shwI r) rfl rfl ?hn ?ho (T := fun _ => False) (shwE A W2 Hr.out) ?ha ?ht ?hm ?hb ?_)
            case hn => exact cells_new _ _ _ rfl
            case ho => intro u hu; simp only [List.mem_cons, List.not_mem_nil, or_false] at hu; rcases hu with rfl | rfl | rfl | rfl | rfl | rfl | rfl | rfl <;> rfl
            case ha => exact fun k h1 h2 => h2
            case ht => exact fun k h => h.elim
            case hm => unfold maxLen; first | omega | (simp only [List.length_append, List.length_cons, List.length_nil]; omega)
            case hb => first | omega | (simp only [List.length_append, List.length_cons, List.length_nil]; omega)
            intro v9 w9 ⟨S9, hO9, hsub, hK9⟩
            have hb9 : Below wS.heap.size wS w9 := (HB8.out.trans ((show Below w8.heap.size w8 (w8.alloc (.cells #[.int .i64 22, .int .i64 (-1), .bool true, .int .i64 r, .bool false, .int .i64 0, .int .i64 0, .slice none 0 0] 53)) by repeat (first | (with_reducible first | exact bR _ _ | exact bH ‹_› | refine bD ?_ | refine bN ?_ _ | refine bS ?_ ?_ _ | refine bA ?_ ?_ _ | refine bT hb3 ?_ ?_ | refine bT hb5 ?_ ?_ | refine bT hb4 ?_ ?_) | omega | (simp; omega) | simp)).mono HB8.out.size)).trans (hK9.below (by have := HB8.out.size; simp; omega) HL8.out)
            have HB9 := hidI hb9
            have HL9 : Hid (∀ g, S9 g → wS.heap.size ≤ g) := hidI fun g hg => by
             rcases hsub g hg with h | h | h
             ·exact HL8.out g h
             ·exact h.elim
             ·have := HB8.out.size; simp at h; omega
            have HO9 := hidI hO9
            clear hO9 hsub hK9 hb9 HO5 l1 l2 l3 l4
            go_wp2_with fail
            go_roundg (B.list.length - (j + 1))
            case measure => omega
            case rel => exact ⟨j + 1, true, S9, by omega, rfl, rfl, by go_num, by rw [HTk.out]; have h := HO9.out; simpa [List.append_assoc] using h, HL9.out, HB9.out⟩
           ·have hk1 : ((i : Int) == (K : Int)) = true := by simp [hik]
            have HIk := hidI hik
            clear hik
            have hd1 : (x.dst == r) = false := by simp [hdr]
            have HDr := hidI hdr
            clear hdr
            have hw1 : watI (decide (i = K)) r x = [x] := by unfold watI; rw [if_neg h22, if_neg (fun h => HDr.out h.2)]
            rw [hw1] at HTk
            have hb3 : Below wr.heap.size wr (wr.alloc (.cells #[.int .i64 x.op, .int .i64 x.dst, .bool x.ar, .int .i64 x.an, .bool x.br, .int .i64 x.bn, .int .i64 x.fn, .slice aq x.args.length ac] 53)) := by repeat (first | (with_reducible first | exact bR _ _ | exact bH ‹_› | refine bD ?_ | refine bN ?_ _ | refine bS ?_ ?_ _ | refine bA ?_ ?_ _ | refine bT hb3 ?_ ?_ | refine bT hb5 ?_ ?_ | refine bT hb4 ?_ ?_) | omega | (simp; omega) | simp)
            have HO3 := hidI (HO2.out.below (locInsE A W2) hb3)
            clear hb3
            obtain ⟨l1, l2, l3, l4⟩ := HI.out
            go_wp2_with (at_builtin; refine wpList_append_slo _ rfl _ _ 43 rfl 53 iI _ 8 80 Tryd.underlying43 l1 l2 l3 l4 rfl (by decide) (locInsE A W2) rfl HO3.out ⟨wr.heap.size, 0, none⟩ 1 [.int .i64 x.op, .int .i64 x.dst, .bool x.ar, .int .i64 x.an, .bool x.br, .int .i64 x.bn, .int .i64 x.fn, .slice aq x.args.length ac] (x) rfl rfl ?hn ?ho (T := fun _ => False) (⟨HC.out, fun _ h => h⟩) ?ha ?ht ?hm ?hb ?_)
            case hn => exact cells_new _ _ _ rfl
            case ho => intro u hu; simp only [List.mem_cons, List.not_mem_nil, or_false] at hu; rcases hu with rfl | rfl | rfl | rfl | rfl | rfl | rfl | rfl <;> rfl
            case ha => exact fun k h1 h2 => h2
            case ht => exact fun k h => h.elim
            case hm => unfold maxLen; first | omega | (simp only [List.length_append]; omega)
            case hb => first | omega | (simp only [List.length_append]; omega)
            intro v8 w8 ⟨S8, hO8, hsub, hK8⟩
            have hb8 : Below wS.heap.size wS w8 := (HBw.out.trans ((show Below wr.heap.size wr (wr.alloc (.cells #[.int .i64 x.op, .int .i64 x.dst, .bool x.ar, .int .i64 x.an, .bool x.br, .int .i64 x.bn, .int .i64 x.fn, .slice aq x.args.length ac] 53)) by repeat (first | (with_reducible first | exact bR _ _ | exact bH ‹_› | refine bD ?_ | refine bN ?_ _ | refine bS ?_ ?_ _ | refine bA ?_ ?_ _ | refine bT hb3 ?_ ?_ | refine bT hb5 ?_ ?_ | refine bT hb4 ?_ ?_) | omega | (simp; omega) | simp)).mono HBw.out.size)).trans (hK8.below (by have := HBw.out.size; simp; omega) HL.out)
            have HB8 := hidI hb8
            have HL8 : Hid (∀ g, S8 g → wS.heap.size ≤ g) := hidI fun g hg => by
             rcases hsub g hg with h | h | h
             ·exact HL.out g h
             ·exact h.elim
             ·have := HBw.out.size; simp at h; omega
            have HO8 := hidI hO8
            clear hO8 hsub hK8 hb8 HO3 l1 l2 l3 l4
            replace x1 := (HB8.out.cell (p := ⟨bb i, b * 6 + 1, none⟩) (lt_of_cell HX1.out)).trans HX1.out
            replace xz := lt_of_cell x1
            replace i1 := (HB8.out.cell (p := ⟨lb, j * 8 + 1, none⟩) (lt_of_cell HI1.out)).trans HI1.out
            replace zi := lt_of_cell i1
            have hsb := blk ((HB8.out.block _ (ltHeap HSS.out)).trans HSS.out)
            replace y0 := hsb.1 0
            replace y1 := hsb.1 1
            replace y2 := hsb.1 2
            replace y3 := hsb.1 3
            replace y4 := hsb.1 4
            replace y5 := hsb.1 5
            replace y6 := hsb.1 6
            replace y7 := hsb.1 7
            replace yz := lt_of_cell y0
            simp only [List.getElem?_toArray, List.getElem?_cons_zero, List.getElem?_cons_succ] at y0 y1 y2 y3 y4 y5 y6 y7
            clear hsb i0 i2 i3 i4 i5 i6 i7
            obtain ⟨vp8, vc8, hv8e, _, _⟩ := HO8.out.val
            subst hv8e
            go_wp2_with fail
            go_roundg (B.list.length - (j + 1))
            case measure => omega
            case rel => exact ⟨j + 1, fd, S8, by omega, rfl, rfl, by go_num, by rw [HTk.out]; exact HO8.out, HL8.out, HB8.out⟩
          ·have hk1 : ((i : Int) == (K : Int)) = false := by simp; omega
           have HIk := hidI hik
           clear hik
           have hw1 : watI (decide (i = K)) r x = [x] := by unfold watI; rw [if_neg h22, if_neg (fun h => HIk.out (of_decide_eq_true h.1))]
           rw [hw1] at HTk
           have hb3 : Below wr.heap.size wr (wr.alloc (.cells #[.int .i64 x.op, .int .i64 x.dst, .bool x.ar, .int .i64 x.an, .bool x.br, .int .i64 x.bn, .int .i64 x.fn, .slice aq x.args.length ac] 53)) := by repeat (first | (with_reducible first | exact bR _ _ | exact bH ‹_› | refine bD ?_ | refine bN ?_ _ | refine bS ?_ ?_ _ | refine bA ?_ ?_ _ | refine bT hb3 ?_ ?_ | refine bT hb5 ?_ ?_ | refine bT hb4 ?_ ?_) | omega | (simp; omega) | simp)
           have HO3 := hidI (HO2.out.below (locInsE A W2) hb3)
           clear hb3
           obtain ⟨l1, l2, l3, l4⟩ := HI.out
           go_wp2_with (at_builtin; refine wpList_append_slo _ rfl _ _ 43 rfl 53 iI _ 8 80 Tryd.underlying43 l1 l2 l3 l4 rfl (by decide) (locInsE A W2) rfl HO3.out ⟨wr.heap.size, 0, none⟩ 1 [.int .i64 x.op, .int .i64 x.dst, .bool x.ar, .int .i64 x.an, .bool x.br, .int .i64 x.bn, .int .i64 x.fn, .slice aq x.args.length ac] (x) rfl rfl ?hn ?ho (T := fun _ => False) (⟨HC.out, fun _ h => h⟩) ?ha ?ht ?hm ?hb ?_)
           case hn => exact cells_new _ _ _ rfl
           case ho => intro u hu; simp only [List.mem_cons, List.not_mem_nil, or_false] at hu; rcases hu with rfl | rfl | rfl | rfl | rfl | rfl | rfl | rfl <;> rfl
           case ha => exact fun k h1 h2 => h2
           case ht => exact fun k h => h.elim
           case hm => unfold maxLen; first | omega | (simp only [List.length_append]; omega)
           case hb => first | omega | (simp only [List.length_append]; omega)
           intro v8 w8 ⟨S8, hO8, hsub, hK8⟩
           have hb8 : Below wS.heap.size wS w8 := (HBw.out.trans ((show Below wr.heap.size wr (wr.alloc (.cells #[.int .i64 x.op, .int .i64 x.dst, .bool x.ar, .int .i64 x.an, .bool x.br, .int .i64 x.bn, .int .i64 x.fn, .slice aq x.args.length ac] 53)) by repeat (first | (with_reducible first | exact bR _ _ | exact bH ‹_› | refine bD ?_ | refine bN ?_ _ | refine bS ?_ ?_ _ | refine bA ?_ ?_ _ | refine bT hb3 ?_ ?_ | refine bT hb5 ?_ ?_ | refine bT hb4 ?_ ?_) | omega | (simp; omega) | simp)).mono HBw.out.size)).trans (hK8.below (by have := HBw.out.size; simp; omega) HL.out)
           have HB8 := hidI hb8
           have HL8 : Hid (∀ g, S8 g → wS.heap.size ≤ g) := hidI fun g hg => by
            rcases hsub g hg with h | h | h
            ·exact HL.out g h
            ·exact h.elim
            ·have := HBw.out.size; simp at h; omega
           have HO8 := hidI hO8
           clear hO8 hsub hK8 hb8 HO3 l1 l2 l3 l4
           replace x1 := (HB8.out.cell (p := ⟨bb i, b * 6 + 1, none⟩) (lt_of_cell HX1.out)).trans HX1.out
           replace xz := lt_of_cell x1
           replace i1 := (HB8.out.cell (p := ⟨lb, j * 8 + 1, none⟩) (lt_of_cell HI1.out)).trans HI1.out
           replace zi := lt_of_cell i1
           have hsb := blk ((HB8.out.block _ (ltHeap HSS.out)).trans HSS.out)
           replace y0 := hsb.1 0
           replace y1 := hsb.1 1
           replace y2 := hsb.1 2
           replace y3 := hsb.1 3
           replace y4 := hsb.1 4
           replace y5 := hsb.1 5
           replace y6 := hsb.1 6
           replace y7 := hsb.1 7
           replace yz := lt_of_cell y0
           simp only [List.getElem?_toArray, List.getElem?_cons_zero, List.getElem?_cons_succ] at y0 y1 y2 y3 y4 y5 y6 y7
           clear hsb i0 i2 i3 i4 i5 i6 i7
           obtain ⟨vp8, vc8, hv8e, _, _⟩ := HO8.out.val
           subst hv8e
           go_wp2_with fail
           go_roundg (B.list.length - (j + 1))
           case measure => omega
           case rel => exact ⟨j + 1, fd, S8, by omega, rfl, rfl, by go_num, by rw [HTk.out]; exact HO8.out, HL8.out, HB8.out⟩
        ·obtain rfl : j = B.list.length := by omega
         rw [List.take_length] at HO2 hfl2 hvn hvc ⊢
         have xf : wr.frozen? ⟨bb i, b * 6 + 1, none⟩ = false := (World.frozen?_of_block (a := ⟨bb i, b * 6 + 1, none⟩) (HBw.out.block _ (lt_of_cell HX1.out))).trans HXf.out
         have hput := HWS.out.put HU.out HBw.out hlt (by rw [← HFe.out]; exact hbl) (v := .slice vp (PP ++ B.list.flatMap (watI (decide (i = K)) r)).length vc) (S := S) (by
          rw [HBe.out]
          show SlO _ _ _ _ _ (B.phis.flatMap (watP (decide (i = K)) r) ++ B.list.flatMap (watI (decide (i = K)) r)) _
          rw [hPP]
          exact HO2.out) HL.out
         have HPut := hidI hput
         have hrr : (wr.setCell ⟨bb i, b * 6 + 1, none⟩ (.slice vp (PP ++ B.list.flatMap (watI (decide (i = K)) r)).length vc)).heap[w.heap.size + 1]? = some (.cells #[.slice none 0 0, .slice none 0 0] 25 (0, 0)) := (Go.Deep.blk_setCell_other _ _ _ _ (by show w.heap.size + 1 ≠ bb i; have := (HBB.out i hlt).1; omega)).trans ((HBw.out.block _ (ltHeap HRS.out)).trans HRS.out)
         have HRr := hidI hrr
         clear hput hrr
         generalize hln : (PP ++ B.list.flatMap (watI (decide (i = K)) r)).length = ln at *
         go_wp2_with fail
         go_roundg (f.blocks.length - (b + 1))
         case measure => omega
         case rel => exact ⟨b + 1, fd, by omega, rfl, rfl, by go_num, HPut.out, HRr.out⟩
    ·obtain rfl : b = f.blocks.length := by omega
     have hup : WSt A W2 bb u.funcs K r (i + 1) 0 wr := WSt.up hlt (by rw [← HFe.out]; exact HWt.out)
     have HUp := hidI hup
     clear hup
     go_wp2_with fail
     go_roundg (u.funcs.length - (i + 1))
     case measure => omega
     case rel => exact ⟨i + 1, fd, by omega, rfl, rfl, by go_num, HUp.out, HRw.out⟩
  ·obtain rfl : i = u.funcs.length := by omega
   have hu0 := (blk ((HWt.out.kept.block _ (ltHeap HUb.out) (fun ha => by have := (HAlt.out _ ha).2.1; omega)).trans HUb.out)).1 0
   have r0 := (blk HRw.out).1 0
   have r1 := (blk HRw.out).1 1
   have rf := (blk HRw.out).2
   have rz := ltHeap HRw.out
   simp only [List.getElem?_toArray, List.getElem?_cons_zero, List.getElem?_cons_succ] at hu0 r0 r1
   go_wp2_with fail
   obtain ⟨Wf, hWf⟩ : ∃ Wf, Wf = (wr.setCell ⟨w.heap.size + 1, 0, none⟩ (.slice p1 u.globals.length c1)).setCell ⟨w.heap.size + 1, 1, none⟩ (.slice (some ⟨G, 0, none⟩) u.funcs.length c2) := ⟨_, rfl⟩
   have hne : ∀ k, k < u.funcs.length → bb k ≠ w.heap.size + 1 := fun k hk e => by have := (HBB.out k hk).1; omega
   have hwf : WSt A W2 bb u.funcs K r u.funcs.length 0 Wf := by
    rw [hWf]
    exact (HWt.out.poke (a := ⟨w.heap.size + 1, 0, none⟩) HBA.out hne _).poke (a := ⟨w.heap.size + 1, 1, none⟩) HBA.out hne _
   have hk1 : Kept A w1 Wf := (Kept.of_below (S := A) HB2.out).trans hwf.kept (fun _ _ e => e)
   refine bodyPost_ret (v := .tuple #[.agg #[.slice p1 u.globals.length c1, .slice (some ⟨G, 0, none⟩) u.funcs.length c2], .bool fd]) ?_ rfl ⟨⟨p1, c1, some ⟨G, 0, none⟩, c2, fd, rfl, ?_, ?_⟩, ?_⟩
   ·simp [results, Tryd.results19, go_sem, *]
   ·rw [← hWf]
    have hg := HQG.out.stay (R' := GloR) (T := S1) locGlo (by omega) (fun _ h => h) (fun g hg => ⟨HQG.out.sl.inb g hg, fun ha => by
     rcases (HAlt.out g ha).2.2 with e | e
     ·have := HLo.out g (HS1.out g hg); omega
     ·exact HA12.out g hg e⟩) (fun _ _ _ _ hh => hh.read) Wf hk1
    obtain ⟨_, _, e, _, _, _, h⟩ := hg
    cases e
    exact h
   ·rw [← hWf]
    refine hwf.read HU.out fun k hk m hm => ?_
    have h1 := HMany.out k hk _ (List.getElem_mem hm)
    have h2 := flat_le (watP_len (decide (k = K)) r) (u.funcs[k]).blocks[m].phis
    have h3 := flat_le (watI_len (decide (k = K)) r) (u.funcs[k]).blocks[m].list
    have h4 : (watB (decide (k = K)) r (u.funcs[k]).blocks[m]).list.length = ((u.funcs[k]).blocks[m].phis.flatMap (watP (decide (k = K)) r)).length + ((u.funcs[k]).blocks[m].list.flatMap (watI (decide (k = K)) r)).length := by
     unfold watB
     rw [List.length_append]
    unfold reachBytes
    omega
   ·rw [← hWf]
    exact HB1.out.trans (hk1.below HB1.out.size fun g hg => by have := (HAlt.out g hg).1; omega)
end Go.Proofs.YtdjamkinijhjoaaDoor
