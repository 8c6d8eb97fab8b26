/-
  The contract of what graph.Post does at one block: depth first.
  The contract of graph.Post: blocks that are reached, as they are left.
  Plain: what depth first leaves: each block once, and behind each one but the first one a block that leads to it.
  slices.Reverse of a row of numbers of the call's own (the shelf's contract, laid for this program), and graph.OrderOf.
-/
import Derived.Maps.OwnIn
import Derived.WalkKit
import Derived.WalkSpells
import Derived.WalkLawsBesides
import Derived.Test.YtdjamkinijhjoaaDoorJDomA
import Derived.Test.YtdjamkinijhjoaaDoorJDomF
import Derived.Laws.EntriesVeiled
import Derived.Shelf.Slices.Reverse
namespace Go.Proofs.YtdjamkinijhjoaaDoor
open Go.RowKit Go.Shelf
attribute [local go_sem] Oper.semAt_some

def tosB (bs : List BlkL) (b : Nat) : List Int := match bs[b]? with | some x => x.fin.to | none => []
theorem tosB_at {bs : List BlkL} {b : Nat} (h : b < bs.length) : tosB bs b = bs[b].fin.to := by
 unfold tosB
 rw [List.getElem?_eq_getElem h]

theorem PostI.off {W0 W : World} {lv0 lv : Value} {V L n B : Nat} {tb ti tl : TypeId} {s s0 : PostS} (_h : PostI W0 lv0 V L n B tb ti tl lv s W) (h0 : PostM W0 V L n B tb ti tl lv0 s0) {k : Nat} {o : Obj} (hk : W0.heap[k]? = some o) (ho : o.isCells = false) : ¬ (k = V ∨ k = L ∨ some k = lv0.ownBlock) := by
 rintro (e | e | e)
 ·subst e
  obtain ⟨cs, hcs⟩ := h0.seen
  rw [hcs.1] at hk
  cases hk; cases ho
 ·subst e
  rw [h0.var] at hk
  cases hk; cases ho
 ·rcases h0.own.2 with ⟨hv, _⟩ | ⟨g, cap, cur, hv, _, hh, _⟩
  ·rw [hv] at e; cases e
  ·rw [hv] at e
   injection e with e
   subst e
   rw [hh] at hk
   cases hk; cases ho
theorem PostI.keeps {W0 W : World} {lv0 lv : Value} {V L n B : Nat} {tb ti tl : TypeId} {s s0 : PostS} (h : PostI W0 lv0 V L n B tb ti tl lv s W) (h0 : PostM W0 V L n B tb ti tl lv0 s0) (B' : Nat) : KeepsFrom B' W0 W :=
 ⟨h.kept.size, fun k _ _ hk ho => (h.kept.block k (Array.getElem?_eq_some_iff.1 hk).1 (h.off h0 hk ho)).trans hk⟩

set_option maxRecDepth 100000 in
set_option maxHeartbeats 2000000 in
theorem postVisit_any (bs : List BlkL) (fp : Option Addr) (fc : Nat) (w1 : World) (hl : bs.length ≤ 100000) (h2 : ∀ k (h : k < bs.length), bs[k].fin.to.length ≤ 2) (hT : ∀ b, b < bs.length → ∀ x ∈ tosB bs b, 0 ≤ x ∧ x < (bs.length : Int)) (V H G X L : Nat)
  (hVz : V < w1.heap.size) (hLz : L < w1.heap.size) (hVL : V ≠ L) (hHV : H ≠ V) (hHL : H ≠ L) (hGV : G ≠ V) (hGL : G ≠ L) (hXV : X ≠ V) (hXL : X ≠ L) (w00 : World) (hw00 : Below w00.heap.size w00 w1) (hF0 : SliceAt w00 6 (BlkR w00) fp bs) (hV0 : w00.heap.size ≤ V) (hL0 : w00.heap.size ≤ L)
  (cH : w1.cell? ⟨H, 0, none⟩ = some (.slice (some ⟨V, 0, none⟩) bs.length bs.length)) (cG : w1.cell? ⟨G, 3, none⟩ = some (.slice fp bs.length fc)) (cX : w1.cell? ⟨X, 0, none⟩ = some (.func (.func 105) #[] #[.pointer (some ⟨H, 0, none⟩), .pointer (some ⟨G, 0, none⟩), .pointer (some ⟨X, 0, none⟩), .pointer (some ⟨L, 0, none⟩)])) :
  ∀ (c : Nat) (s : PostS) (lv : Value) (W : World) (b : Nat), leftN bs.length s.1 < c → b < bs.length → s.1 b = false → s.2.length + leftN bs.length s.1 ≤ bs.length → Kept (fun k => k = V ∨ k = L) w1 W → PostM W V L bs.length w1.heap.size 4 3 46 lv s →
   Calls Tryd.prog 105 #[.int .i64 b, .pointer (some ⟨H, 0, none⟩), .pointer (some ⟨G, 0, none⟩), .pointer (some ⟨X, 0, none⟩), .pointer (some ⟨L, 0, none⟩)] W fun e W' => e = .returned (.tuple #[]) ∧ ∃ lv', PostI W lv V L bs.length w1.heap.size 4 3 46 lv' (visF (tosB bs) c b s) W' := by
 obtain ⟨i1, k1, k2, k3, k4⟩ := info_parts infoInt3
 have HF0 := hidI hF0
 have HT := hidI hT
 have H2 := hidI h2
 have HW00 := hidI hw00
 clear hF0 hT h2 hw00
 intro c
 induction c with
 | zero => intro s lv W b h; omega
 | succ c ih =>
  intro s lv W b hc hb hs hm hk hM
  have IH := hidI ih
  have hmk := markS_left (n := bs.length) hb hs
  have gH := hk.cell (p := ⟨H, 0, none⟩) (lt_of_cell cH) (fun e => e.elim hHV hHL)
  have gG := hk.cell (p := ⟨G, 3, none⟩) (lt_of_cell cG) (fun e => e.elim hGV hGL)
  rw [cH] at gH
  rw [cG] at gG
  have zV := hM.seen.lt
  have cV := hM.seen.cell hb
  have fV := hM.seen.frozen b
  have zG := lt_of_cell gG
  have zH := lt_of_cell gH
  have hW00W : Below w00.heap.size w00 W := HW00.out.trans (Kept.below (S := fun k => k = V ∨ k = L) hk HW00.out.size (fun i e => by rcases e with e | e <;> omega))
  obtain ⟨fb, fo, q1, c1, q2, c2, q3, c3, hp, e0, _, _, _, _, e5, _, _, _, _, _, _, _, hts⟩ := blkGet HF0.out (Below.refl _ _) hb
  have hbb : fb < w00.heap.size := lt_of_cell e0
  subst hp
  have hfV : fb ≠ V := by omega
  have e5 := (hW00W.cell (p := ⟨fb, fo + b * 6 + 5, none⟩) hbb).trans e5
  have zfb : fb < W.heap.size := lt_of_cell e5
  have HM := hidI hM
  have HK := hidI hk
  have HTS := hidI hts
  have HS := hidI hs
  have HW0 := hidI hW00W
  have HVL := hidI hVL
  have HMK := hidI hmk
  clear ih hk hM hts e0 hs hW00W hmk
  refine (callsIn_wide (n := 3)).1 ?_
  refine callsIn_of_wp_marks Tryd.func105 rfl trivial ?_ rfl
  simp only [Tryd.ntmps105, List.size_toArray, List.length_cons, List.length_nil, Nat.reduceAdd, Nat.reduceSub, Array.replicate_succ, Array.replicate_zero, List.push_toArray, List.append_toArray, List.nil_append, List.cons_append]
  have hfV' := hfV.symm
  have hHV' := hHV.symm
  have hGV' := hGV.symm
  gi_wp2_with (refine ⟨trivial, ?_⟩; gi_at_call 106; refine ((callsIn_wide (n := 2)).2 (backward_any _ _ _ _)).mono ?_; rintro e w2 ⟨rfl, rfl⟩)
  gi_wp2
  obtain ⟨W0, hW0⟩ : ∃ W0, W0 = (W.setCell ⟨V, b, none⟩ (.bool true)).alloc (.cells #[.slice q3 bs[b].fin.to.length c3] 46) := ⟨_, rfl⟩
  rw [← hW0]
  have hz0 : W0.heap.size = W.heap.size + 1 := by rw [hW0]; simp
  have hgW : W.grownBy (W.setCell ⟨V, b, none⟩ (.bool true)) (some V) := ⟨rfl, rfl, rfl, by rw [Go.Deep.nblk_setCell]; exact Nat.le_refl _, fun i _ hne => Go.Deep.blk_setCell_other _ _ _ _ (fun e => hne (by rw [e]))⟩
  have hM1 : PostM (W.setCell ⟨V, b, none⟩ (.bool true)) V L bs.length w1.heap.size 4 3 46 lv (markS b s) := by
   refine ⟨(HM.out.seen.set b (.bool true)).congr fun j _ => ?_, (hgW.block L (ltHeap HM.out.var) (fun e => HVL.out (by injection e with e; exact e.symm))).trans HM.out.var, HM.out.own.kept hgW (.inr fun e => ?_)⟩
   ·show (if j = b then Value.bool true else Value.bool (s.1 j)) = Value.bool (if j = b then true else s.1 j)
    split <;> rfl
   ·have := (HM.out.own.lt V e).1
    omega
  have hP0 : PostI W lv V L bs.length w1.heap.size 4 3 46 lv (markS b s) W0 := by
   have h1 : PostI W lv V L bs.length w1.heap.size 4 3 46 lv (markS b s) (W.setCell ⟨V, b, none⟩ (.bool true)) := ⟨hM1, Kept.of_grown hgW (fun g e => .inl (by injection e with e; exact e.symm)), .inl rfl⟩
   rw [hW0]
   exact h1.below ((Below.refl _ _).alloc (Nat.le_refl _) _)
  have hb0 : Below w00.heap.size w00 W0 := by
   rw [hW0]
   exact (HW0.out.setCell (by exact hV0) _).alloc (by have := HW0.out.size; simp; omega) _
  have hbox : W0.cell? ⟨W.heap.size, 0, none⟩ = some (.slice q3 bs[b].fin.to.length c3) := by
   rw [hW0]
   exact (blk (heap_at (w := W.setCell ⟨V, b, none⟩ (.bool true)) (by simp))).1 0
  have hsh : BackSh W.heap.size q3 c3 bs[b].fin.to W0 := ⟨hbox, fun i hi => by
   obtain ⟨b', o', h1, h2, _⟩ := intGet HTS.out hb0 hi
   exact ⟨b', o', h1, h2⟩⟩
  have hq3 : ∀ b' o', q3 = some ⟨b', o', none⟩ → 0 < bs[b].fin.to.length → b' < w00.heap.size := fun b' o' e h0 => by
   obtain ⟨b2, o2, h1, h2, _⟩ := intGet HTS.out (Below.refl _ _) h0
   rw [e] at h1
   cases h1
   exact lt_of_cell h2
  have HTB : Hid (tosB bs b = bs[b].fin.to) := tosB_at hb
  have hl2 := H2.out b hb
  have hTb := HT.out b hb
  rw [HTB.out] at hTb
  have HP0 := hidI hP0
  have HSH := hidI hsh
  have HQ3 := hidI hq3
  have HTb := hidI hTb
  clear hW0 hP0 hsh hb0 hbox hM1 hgW hq3 hTb e5
  generalize hto : bs[b].fin.to = to at *
  clear hto
  refine wpIn_rangeAt rfl (by omega) (gf := 133) (lb := #[.pointer (some ⟨W.heap.size, 0, none⟩)]) rfl trivial (enters_of Tryd.func133 (by kernel_rfl) rfl)
   (back_at Fence.wide 2 trivial rfl (by omega) W.heap.size c3 q3 to W0 (by omega) HSH.out) (fun h k x => k (h x)) (fun W l o o' _ hl ho _ h => h.putObj o' hl ho) (Below.refl _ _) (fun i _ => rfl)
   (fun i W' => (∃ lv', PostI W0 lv V L bs.length w1.heap.size 4 3 46 lv' (visTo (visF (tosB bs) c) to (markS b s) i) W') ∧ BackSh W.heap.size q3 c3 to W') (fun _ _ _ => False)
   ((own_post (Nat.le_refl _) _).and own_back) (fun _ _ _ _ _ hs _ _ => hs) ⟨⟨lv, PostI.here HP0.out.st⟩, HSH.out⟩
   (fun i => { tmps := #[.int .i64 b, .pointer (some ⟨H, 0, none⟩), .pointer (some ⟨G, 0, none⟩), .pointer (some ⟨X, 0, none⟩), .pointer (some ⟨L, 0, none⟩), undef, undef, .int .i64 (to.getD (to.length - 1 - i) 0), .slice (some ⟨V, 0, none⟩) bs.length bs.length, .int .i64 b, .pointer (some ⟨V, b, none⟩), .pointer (some ⟨G, 3, none⟩), .slice (some ⟨fb, fo, none⟩) bs.length fc, .int .i64 b, .pointer (some ⟨fb, fo + b * 6, none⟩), .pointer (some ⟨fb, fo + b * 6 + 2, none⟩), .pointer (some ⟨fb, fo + b * 6 + 2 + 3, none⟩), .slice q3 to.length c3, .func (.func 133) #[] #[.pointer (some ⟨W.heap.size, 0, none⟩)], .int .i64 ((to.length - 1 - i : Nat) : Int), .int .i64 (to.getD (to.length - 1 - i) 0), undef, undef, undef, undef, undef, undef, undef, undef, undef, undef, undef, undef], defers := [] }) ?assign ?body ?fin ?stop
  case assign =>
   intro l i W K hi hK
   unfold backEl
   gi_wp2
   exact hK
  case body =>
   rintro l i Wi hl hi ⟨⟨lv', hPi⟩, hSi⟩
   have hk1 : to.length - 1 - i < to.length := by omega
   have hok := visTo_ok (n := bs.length) (rec := visF (tosB bs) c) HTb.out (s := markS b s) (fun b' s' hb' h' _ => visF_ok HT.out c b' s' hb' h') i (by omega)
   have hx := HTb.out _ (List.getElem_mem hk1)
   have hgd : to.getD (to.length - 1 - i) 0 = to[to.length - 1 - i] := by
    rw [List.getD_eq_getElem?_getD, List.getElem?_eq_getElem hk1]
    rfl
   have HSU : Hid (visTo (visF (tosB bs) c) to (markS b s) (i + 1) = visStep (visF (tosB bs) c) (visTo (visF (tosB bs) c) to (markS b s) i) (to[to.length - 1 - i])) := by
    show _ = visStep _ _ _
    rw [← hgd]
    rfl
   rw [hgd]
   obtain ⟨t, ht⟩ : ∃ t : Nat, to[to.length - 1 - i] = (t : Int) := ⟨to[to.length - 1 - i].toNat, by omega⟩
   rw [ht] at hx HSU
   rw [ht]
   have htn : t < bs.length := by omega
   generalize visTo (visF (tosB bs) c) to (markS b s) i = S at *
   have hkb := hPi.base HP0.out.st (Nat.le_refl _) (HP0.out.base HM.out (Nat.le_refl _) HK.out)
   have gH := (hkb.cell (p := ⟨H, 0, none⟩) (lt_of_cell cH) (fun e => e.elim hHV hHL)).trans cH
   have gX := (hkb.cell (p := ⟨X, 0, none⟩) (lt_of_cell cX) (fun e => e.elim hXV hXL)).trans cX
   have gS := hPi.st.seen.cell htn
   have hlo : leftN bs.length S.1 ≤ leftN bs.length (markS b s).1 := leftN_mono hok.up
   have hmany := hok.many
   have hsl : (markS b s).2.length = s.2.length := rfl
   have hdl := HMK.out
   have HPi := hidI hPi
   have HSi := hidI hSi
   have HKb := hidI hkb
   clear hgd ht hok hPi hSi hkb
   cases hst : S.1 t
   ·rw [hst] at gS
    have HST := hidI hst
    clear hst
    gi_wp2_with (refine ⟨trivial, ?_⟩; refine (CallsIn.inRound l (callsIn_wide.2 (IH.out S lv' Wi t (by omega) htn HST.out (by omega) HKb.out HPi.out.st))).mono ?_; rintro e W3 ⟨rfl, lv3, hP3⟩)
    gi_wp2
    have hsh3 : BackSh W.heap.size q3 c3 to W3 := HSi.out.other fun b' o' v hc hor => (hP3.kept.cell (p := ⟨b', o', none⟩) (lt_of_cell hc) (fun e => by
     have hw1 := HK.out.size
     have hw0 := HW00.out.size
     rcases hor with h | ⟨o2, h⟩
     ·rcases e with e | e | e
      ·have e2 : b' = V := e
       omega
      ·have e2 : b' = L := e
       omega
      ·have e2 : some b' = lv'.ownBlock := e
       rcases HPi.out.blk with g | ⟨q, g, hq⟩
       ·have := (HM.out.own.lt b' (g.symm.trans e2.symm)).2
        omega
       ·rw [g] at e2
        injection e2 with e2
        omega
     ·have h1 := HQ3.out b' o2 h (by omega)
      rcases e with e | e | e
      ·have e2 : b' = V := e
       omega
      ·have e2 : b' = L := e
       omega
      ·have := (HPi.out.st.own.lt b' (show lv'.ownBlock = some b' from e.symm)).1
       omega)).trans hc
    refine ⟨hP3.keeps HPi.out.st _, fun _ => hsh3, ⟨lv3, ?_⟩, hsh3⟩
    rw [HSU.out]
    unfold visStep
    rw [show (t : Int).toNat = t from rfl, HST.out]
    exact HPi.out.trans hP3
   ·rw [hst] at gS
    have HST := hidI hst
    clear hst
    gi_wp2
    refine ⟨KeepsFrom.refl _ _, fun h => h, ⟨lv', ?_⟩, HSi.out⟩
    rw [HSU.out]
    unfold visStep
    rw [show (t : Int).toNat = t from rfl, HST.out]
    exact HPi.out
  case fin =>
   rintro D W2 hD ⟨⟨lv', hPi⟩, hSi⟩ hDl
   have hok := visTo_ok (n := bs.length) (rec := visF (tosB bs) c) HTb.out (s := markS b s) (fun b' s' hb' h' _ => visF_ok HT.out c b' s' hb' h') to.length (Nat.le_refl _)
   have HVF : Hid (visF (tosB bs) (c + 1) b s = ((visTo (visF (tosB bs) c) to (markS b s) to.length).1, (visTo (visF (tosB bs) c) to (markS b s) to.length).2 ++ [(b : Int)])) := by
    show _ = _
    rw [← HTB.out]
    rfl
   have hmany := hok.many
   have hsl : (markS b s).2.length = s.2.length := rfl
   have hdl := HMK.out
   clear hok
   generalize visTo (visF (tosB bs) c) to (markS b s) to.length = S at *
   obtain ⟨m, d, hvv⟩ := own_slice hPi.st.own
   subst hvv
   have cL := (blk hPi.st.var).1 0
   have zL := ltHeap hPi.st.var
   have fL := (blk hPi.st.var).2
   have HPi := hidI hPi
   have HDl := hidI hDl
   clear hPi hSi hDl
   generalize hln : S.2.length = ln at *
   have HLN := hidI hln
   clear hln
   gi_wp2_with (gi_at_builtin; refine wpListIn_append_own_at _ rfl _ _ 46 rfl w1.heap.size 3 i1 (.int .i64 0) 1 8 underInts3 k1 k2 k3 k4 rfl (by decide) _ _ _ rfl (show World.ownsRow _ _ _ _ _ _ _ from ownsRow_below' HPi.out.st.own ((Below.refl _ _).alloc (Nat.le_refl _) _)) ⟨W2.heap.size, 0, none⟩ 1 1 [.int .i64 b] rfl rfl (cell_one_at _ _ _ _ rfl) (by simp [Value.oneCell']) ?_ ?_ ?_ ?_)
   ·have := HLN.out
    unfold maxLen
    omega
   ·have := HLN.out
    omega
   ·have := HK.out.size
    have := HPi.out.kept.size
    simp; omega
   intro v' W5 hown' hgrow _ hat
   obtain ⟨g', cap', hv'⟩ := ownsRow_succ' hown'
   subst hv'
   have hWz : W0.heap.size ≤ W2.heap.size := HPi.out.kept.size
   have hw1z := HK.out.size
   have hlvo : ∀ k, (Value.slice m ln d).ownBlock = some k → w1.heap.size ≤ k ∧ k < W2.heap.size := fun k e => HPi.out.st.own.lt k e
   have hPa := HPi.out.below (W' := W2.alloc (.cells #[.int .i64 b] 3)) ((Below.refl _ _).alloc (Nat.le_refl _) _)
   have hseen5 := hPa.st.seen.of_block (hgrow.block V hPa.st.seen.lt (fun e => by have := (hlvo V e.symm).1; omega))
   have hvar5 := (hgrow.block L (ltHeap hPa.st.var) (fun e => by have := (hlvo L e.symm).1; omega)).trans hPa.st.var
   have hk5 : Kept (fun k => k = V ∨ k = L ∨ some k = (Value.slice m ln d).ownBlock) W2 W5 := ((Kept.refl _ W2).alloc _).trans (Kept.of_grown (S := fun k => some k = (Value.slice m ln d).ownBlock) hgrow (fun g e => e.symm)) (fun i _ e => .inr (.inr e))
   have hgS : W5.grownBy (W5.setCell ⟨L, 0, none⟩ (.slice (some ⟨g', 0, none⟩) (S.2.length + 1) cap')) (some L) := ⟨rfl, rfl, rfl, by rw [Go.Deep.nblk_setCell]; exact Nat.le_refl _, fun i _ hne => Go.Deep.blk_setCell_other _ _ _ _ (fun e => hne (by rw [e]))⟩
   have hP5 : PostI W2 (.slice m ln d) V L bs.length w1.heap.size 4 3 46 (.slice (some ⟨g', 0, none⟩) (S.2.length + 1) cap') (S.1, S.2 ++ [(b : Int)]) (W5.setCell ⟨L, 0, none⟩ (.slice (some ⟨g', 0, none⟩) (S.2.length + 1) cap')) := by
    refine ⟨⟨hseen5.of_block (hgS.block V hseen5.lt (fun e => HVL.out (by injection e))), ?_, ?_⟩, hk5.setCell (.inr (.inl rfl)) _, ?_⟩
    ·have := row_set hvar5 0 (.slice (some ⟨g', 0, none⟩) (S.2.length + 1) cap')
     simpa using this
    ·have h1 : W5.ownsRow w1.heap.size 3 1 (.slice (some ⟨g', 0, none⟩) (S.2.length + 1) cap') (S.2 ++ [(b : Int)]).length ((S.2 ++ [(b : Int)]).map (.int .i64)) := by
      rw [List.length_append, List.map_append]
      exact hown'
     exact h1.kept hgS (.inr fun e => by have := (h1.lt L e).1; omega)
    ·rcases hat with e | e
     ·exact .inl e
     ·exact .inr ⟨_, e, by simp⟩
   have hD5 : (W5.setCell ⟨L, 0, none⟩ (.slice (some ⟨g', 0, none⟩) (S.2.length + 1) cap')).heap[D]? = some (.deferred (some [])) := (hP5.kept.block D (ltHeap HDl.out) ((PostI.here HPi.out.st).off HPi.out.st HDl.out rfl)).trans HDl.out
   have hPZ := (HP0.out.trans HPi.out).trans hP5
   have cL5 := (blk hvar5).1 0
   have fL5 := (blk hvar5).2
   have zL5 := ltHeap hvar5
   have HPZ := hidI hPZ
   have HD5 := hidI hD5
   clear hown' hgrow hat hPa hseen5 hk5 hgS hP5 hD5 hPZ hvar5 hlvo
   gi_wp2
   show LeavesInM _ _ _ _ _ _ (marks [D]) .returning _
   refine leaves_marks W0.heap.size [D] _ (by simp) (fun E hE => ?_) (fun w' h1 h2 h3 h4 h5 => ⟨_, results_none rfl _ _ _, rfl, ?_⟩)
   ·rw [List.mem_singleton] at hE
    subst hE
    exact ⟨hD, HD5.out⟩
   ·rw [HVF.out]
    refine own_post (B' := W0.heap.size) (by omega) (fun _ => (S.1, S.2 ++ [(b : Int)])) 0 _ w' (some D) ⟨_, HPZ.out⟩ ⟨h1, h2, h3, h4, fun k _ hne => h5 k (fun hk => hne (by rw [List.mem_singleton] at hk; rw [hk]))⟩ (fun r e => ?_)
    injection e with e
    subst e
    exact ⟨hD, _, HD5.out, rfl⟩
  case stop =>
   rintro D c i W2 _ _ h _
   exact h.elim
end Go.Proofs.YtdjamkinijhjoaaDoor
namespace Go.Proofs.YtdjamkinijhjoaaDoor
open Go.RowKit Go.Shelf

theorem underBools3 : Tryd.prog.underlying 59 = some (.slice 4) := by kernel_rfl
theorem infoBool3 : (Tryd.prog.info? 4).map (fun i => (i.zero, i.size, i.bytes)) = some (some (.bool false), 1, 1) := by kernel_rfl

def postL (bs : List BlkL) : List Int := (visF (tosB bs) (bs.length + 1) 0 (fun _ => false, [])).2
theorem leftN_le (n : Nat) (p : Nat → Bool) : leftN n p ≤ n := by
 unfold leftN
 exact Nat.le_trans (List.length_filter_le _ _) (by simp)

set_option maxRecDepth 100000 in
set_option maxHeartbeats 2000000 in
theorem post_any (f : FunL) (fp : Option Addr) (fc : Nat) (w : World) (hn : 0 < f.blocks.length) (hl : f.blocks.length ≤ 100000) (h2 : ∀ k (h : k < f.blocks.length), f.blocks[k].fin.to.length ≤ 2) (hT : ∀ b, b < f.blocks.length → ∀ x ∈ tosB f.blocks b, 0 ≤ x ∧ x < (f.blocks.length : Int)) (hF : SliceAt w 6 (BlkR w) fp f.blocks) :
  Calls Tryd.prog 56 #[.agg #[.string f.name, .int .i64 f.params, .int .i64 f.regs, .slice fp f.blocks.length fc]] w fun e w' => ∃ v, e = .returned v ∧ w'.ownsRow w.heap.size 3 1 v (postL f.blocks).length ((postL f.blocks).map (.int .i64)) ∧ Below w.heap.size w w' := by
 obtain ⟨i1, k1, k2, k3, k4⟩ := info_parts infoBool3
 have hmk := run_make_row 59 4 i1 (.bool false) underBools3 k1 k2 k3 rfl .i64 .i64 f.blocks.length (by rw [k4]; omega) (by omega)
 have HF := hidI hF
 have H2 := hidI h2
 have HT := hidI hT
 clear hF h2 hT
 go_enter Tryd.func56, Tryd.ntmps56
 go_wp2_with fail
 refine (postVisit_any f.blocks fp fc _ hl H2.out HT.out (w.heap.size + 1 + 1) (w.heap.size + 1 + 1 + 1) w.heap.size (w.heap.size + 1 + 1 + 1 + 1) (w.heap.size + 1) (by simp) (by simp) (by omega) (by omega) (by omega) (by omega) (by omega) (by omega) (by omega) w (by repeat (first | (with_reducible first | exact bR _ _ | exact bH ‹_› | refine bD ?_ | refine bN ?_ _ | refine bS ?_ ?_ _ | refine bA ?_ ?_ _ | refine bT hb3 ?_ ?_ | refine bT hb5 ?_ ?_ | refine bT hb4 ?_ ?_) | omega | (simp; omega) | simp)) HF.out (by omega) (by omega) ?_ ?_ ?_ (f.blocks.length + 1) (fun _ => false, []) (.slice none 0 0) _ 0 (by have := leftN_le f.blocks.length (fun _ => false); exact Nat.lt_succ_of_le this) hn rfl (by have := leftN_le f.blocks.length (fun _ => false); simpa using this) (Kept.refl _ _) ?_).mono ?_
 ·exact (blk (heap_step (heap_at (by simp)))).1 0
 ·exact (blk (heap_step (heap_step (heap_step (heap_step (heap_here w _)))))).1 3
 ·exact (blk (heap_at (by simp))).1 0
 ·refine ⟨?_, heap_step (heap_step (heap_step (heap_at (by simp)))), World.ownsRow_nil _ _ _ _⟩
  have hM := World.rowIs_made ((w.alloc (.cells #[.string f.name, .int .i64 f.params, .int .i64 f.regs, .slice fp f.blocks.length fc] 37)).alloc (.cells #[.slice none 0 0] 46)) (.bool false) f.blocks.length 4
  have e : ((w.alloc (.cells #[.string f.name, .int .i64 f.params, .int .i64 f.regs, .slice fp f.blocks.length fc] 37)).alloc (.cells #[.slice none 0 0] 46)).heap.size = w.heap.size + 1 + 1 := by simp
  rw [e] at hM
  exact (hM.alloc _).alloc _
 rintro e w2 ⟨rfl, lv, hP⟩
 obtain ⟨m, d, hv⟩ := own_slice hP.st.own
 subst hv
 have cL := (blk hP.st.var).1 0
 have hb : Below w.heap.size w w2 := Below.trans (by repeat (first | (with_reducible first | exact bR _ _ | exact bH ‹_› | refine bD ?_ | refine bN ?_ _ | refine bS ?_ ?_ _ | refine bA ?_ ?_ _ | refine bT hb3 ?_ ?_ | refine bT hb5 ?_ ?_ | refine bT hb4 ?_ ?_) | omega | (simp; omega) | simp)) (hP.kept.below (by simp; omega) fun i e => by
  rcases e with e | e | e
  ·omega
  ·omega
  ·cases e)
 have HB := hidI hb
 have HO := hidI (ownsRow_base hP.st.own (B := w.heap.size) (by simp; omega))
 clear hP hb
 go_wp2
 exact bodyPost_ret (results_tmp (t := 2) rfl _ _ _) rfl ⟨_, rfl, HO.out, HB.out⟩
end Go.Proofs.YtdjamkinijhjoaaDoor
namespace Go.Proofs.YtdjamkinijhjoaaDoor

def Beh (tos : Nat → List Int) (P : Nat → Prop) : List Nat → Prop
 | [] => True
 | x :: l => (P x ∨ ∃ p ∈ l, (x : Int) ∈ tos p) ∧ Beh tos P l
theorem Beh.append {tos : Nat → List Int} {P : Nat → Prop} : ∀ {l m : List Nat}, Beh tos P l → Beh tos P m → Beh tos P (l ++ m)
 | [], _, _, h => h
 | _ :: _, _, h, k => ⟨h.1.imp id fun ⟨p, hp, e⟩ => ⟨p, List.mem_append_left _ hp, e⟩, h.2.append k⟩
theorem Beh.mono {tos : Nat → List Int} {P Q : Nat → Prop} (hq : ∀ x, P x → Q x) : ∀ {l : List Nat}, Beh tos P l → Beh tos Q l
 | [], _ => trivial
 | _ :: _, h => ⟨h.1.imp (hq _) id, h.2.mono hq⟩
theorem Beh.snoc {tos : Nat → List Int} {b : Nat} : ∀ {l : List Nat}, Beh tos (fun x => (x : Int) ∈ tos b) l → Beh tos (fun x => x = b) (l ++ [b])
 | [], _ => ⟨.inl rfl, trivial⟩
 | _ :: l, h => ⟨.inr (h.1.elim (fun e => ⟨b, by simp, e⟩) fun ⟨p, hp, e⟩ => ⟨p, List.mem_append_left _ hp, e⟩), h.2.snoc⟩

structure VisP (n : Nat) (tos : Nat → List Int) (P : Nat → Prop) (s s' : PostS) (l : List Nat) : Prop where
 left : s'.2 = s.2 ++ l.map fun (x : Nat) => (x : Int)
 seen : ∀ j, s'.1 j = true ↔ s.1 j = true ∨ j ∈ l
 fresh : ∀ j ∈ l, s.1 j = false ∧ j < n
 once : l.Nodup
 beh : Beh tos P l
theorem VisP.refl {n : Nat} {tos : Nat → List Int} {P : Nat → Prop} (s : PostS) : VisP n tos P s s [] := ⟨by simp, by simp, by simp, List.nodup_nil, trivial⟩
theorem VisP.trans {n : Nat} {tos : Nat → List Int} {P : Nat → Prop} {a b c : PostS} {l m : List Nat} (h : VisP n tos P a b l) (k : VisP n tos P b c m) : VisP n tos P a c (l ++ m) where
 left := by rw [k.left, h.left, List.map_append, List.append_assoc]
 seen := fun j => by rw [k.seen, h.seen, List.mem_append, or_assoc]
 fresh := fun j hj => by
  rcases List.mem_append.1 hj with g | g
  ·exact h.fresh j g
  ·obtain ⟨h1, h2⟩ := k.fresh j g
   refine ⟨?_, h2⟩
   cases e : a.1 j with
   | false => rfl
   | true => rw [(h.seen j).2 (.inl e)] at h1; cases h1
 once := List.nodup_append.2 ⟨h.once, k.once, fun x hx y hy e => by
  subst e
  have h1 := (k.fresh x hy).1
  rw [(h.seen x).2 (.inr hx)] at h1
  cases h1⟩
 beh := h.beh.append k.beh
theorem VisP.mono {n : Nat} {tos : Nat → List Int} {P Q : Nat → Prop} {a b : PostS} {l : List Nat} (h : VisP n tos P a b l) (hq : ∀ x, P x → Q x) : VisP n tos Q a b l := ⟨h.left, h.seen, h.fresh, h.once, h.beh.mono hq⟩
theorem VisP.up {n : Nat} {tos : Nat → List Int} {P : Nat → Prop} {a b : PostS} {l : List Nat} (h : VisP n tos P a b l) : leftN n b.1 ≤ leftN n a.1 := leftN_mono fun j e => (h.seen j).2 (.inl e)

theorem visTo_p {n : Nat} {tos : Nat → List Int} {rec : Nat → PostS → PostS} {xs : List Int} (hx : ∀ x ∈ xs, 0 ≤ x ∧ x < (n : Int)) {s : PostS}
  (h : ∀ b s', b < n → s'.1 b = false → leftN n s'.1 ≤ leftN n s.1 → ∃ l, VisP n tos (fun x => x = b) s' (rec b s') l) : ∀ i, i ≤ xs.length → ∃ l, VisP n tos (fun x => (x : Int) ∈ xs) s (visTo rec xs s i) l
 | 0, _ => ⟨[], VisP.refl s⟩
 | i + 1, hi => by
  obtain ⟨l, ih⟩ := visTo_p hx h i (by omega)
  show ∃ l, VisP n tos _ s (visStep rec (visTo rec xs s i) (xs.getD (xs.length - 1 - i) 0)) l
  have hk : xs.length - 1 - i < xs.length := by omega
  have hm := hx _ (List.getElem_mem hk)
  have hg : xs.getD (xs.length - 1 - i) 0 = xs[xs.length - 1 - i] := by
   rw [List.getD_eq_getElem?_getD, List.getElem?_eq_getElem hk]; rfl
  rw [hg]
  unfold visStep
  cases e : (visTo rec xs s i).1 (xs[xs.length - 1 - i]).toNat
  ·obtain ⟨m, h2⟩ := h (xs[xs.length - 1 - i]).toNat _ (by omega) e ih.up
   refine ⟨l ++ m, ih.trans (h2.mono fun x hxe => ?_)⟩
   have : (x : Int) = xs[xs.length - 1 - i] := by omega
   rw [this]
   exact List.getElem_mem hk
  ·exact ⟨l, ih⟩
theorem visF_p {n : Nat} {tos : Nat → List Int} (hT : ∀ b, b < n → ∀ x ∈ tos b, 0 ≤ x ∧ x < (n : Int)) : ∀ (c b : Nat) (s : PostS), leftN n s.1 < c → b < n → s.1 b = false → ∃ l, VisP n tos (fun x => x = b) s (visF tos c b s) (l ++ [b])
 | 0, _, _, h, _, _ => by omega
 | c + 1, b, s, hc, hb, hs => by
  have h1 := markS_left (n := n) hb hs
  obtain ⟨l, h2⟩ := visTo_p (n := n) (tos := tos) (rec := visF tos c) (xs := tos b) (hT b hb) (s := markS b s) (fun b' s' hb' h' hle => by
   obtain ⟨l, h⟩ := visF_p hT c b' s' (by omega) hb' h'
   exact ⟨_, h⟩) (tos b).length (Nat.le_refl _)
  have hfr : ∀ j ∈ l, j ≠ b ∧ s.1 j = false ∧ j < n := fun j hj => by
   obtain ⟨h3, h4⟩ := h2.fresh j hj
   have h5 : (if j = b then true else s.1 j) = false := h3
   by_cases e : j = b
   ·rw [if_pos e] at h5; cases h5
   ·rw [if_neg e] at h5
    exact ⟨e, h5, h4⟩
  refine ⟨l, ?_, fun j => ?_, fun j hj => ?_, ?_, h2.beh.snoc⟩
  ·show (visTo (visF tos c) (tos b) (markS b s) (tos b).length).2 ++ [(b : Int)] = _
   rw [h2.left, List.map_append, ← List.append_assoc]
   rfl
  ·show (visTo (visF tos c) (tos b) (markS b s) (tos b).length).1 j = true ↔ _
   rw [h2.seen]
   show (if j = b then true else s.1 j) = true ∨ j ∈ l ↔ _
   by_cases e : j = b
   ·simp [e]
   ·simp [e]
  ·rcases List.mem_append.1 hj with g | g
   ·exact (hfr j g).2
   ·rw [List.mem_singleton] at g
    subst g
    exact ⟨hs, hb⟩
  ·refine List.nodup_append.2 ⟨h2.once, by simp, fun x hx y hy e => ?_⟩
   rw [List.mem_singleton] at hy
   exact (hfr x hx).1 (e.trans hy)

theorem postL_is {bs : List BlkL} (h0 : 0 < bs.length) (hT : ∀ b, b < bs.length → ∀ x ∈ tosB bs b, 0 ≤ x ∧ x < (bs.length : Int)) :
  ∃ l : List Nat, postL bs = (l ++ [0]).map (fun (x : Nat) => (x : Int)) ∧ (l ++ [0]).Nodup ∧ (∀ x ∈ l ++ [0], x < bs.length) ∧ Beh (tosB bs) (fun x => x = 0) (l ++ [0]) := by
 obtain ⟨l, h⟩ := visF_p (n := bs.length) hT (bs.length + 1) 0 (fun _ => false, []) (Nat.lt_succ_of_le (leftN_le _ _)) h0 rfl
 refine ⟨l, ?_, h.once, fun x hx => (h.fresh x hx).2, h.beh⟩
 have := h.left
 unfold postL
 simpa using this
end Go.Proofs.YtdjamkinijhjoaaDoor
namespace Go.Proofs
open Go.Shelf Go.Sort Go.RowKit Go.Lib
def Tryd.lays112_ren : Go.Shelf.Ren := ⟨fun | 112 => 130 | n => n, fun | 28 => 46 | 3 => 3 | 0 => 0 | 4 => 4 | n => n, fun | n => n⟩
theorem Tryd.lays112 : Go.Proofs.Lays.n112 Tryd.prog Tryd.lays112_ren := {
 mixed := by kernel_rfl
 f112 := Tryd.func130.trans (congrArg some (by kernel_rfl))
 t0 := Tryd.underlying0
 a0 := Tryd.isAgg0
 z0 := Tryd.sizeOf0
 v0 := Tryd.zeroValue0
 t3 := Tryd.underlying3
 a3 := Tryd.isAgg3
 z3 := Tryd.sizeOf3
 v3 := Tryd.zeroValue3
 t4 := Tryd.underlying4
 a4 := Tryd.isAgg4
 z4 := Tryd.sizeOf4
 v4 := Tryd.zeroValue4
 t28 := Tryd.underlying46
 a28 := Tryd.isAgg46
 z28 := Tryd.sizeOf46
 v28 := Tryd.zeroValue46 }
end Go.Proofs
namespace Go.Proofs.YtdjamkinijhjoaaDoor
open Go.RowKit Go.Shelf Go.Lib Go.Sort

theorem reverse_own (B : Nat) (p : Option Addr) (c : Nat) (zs : List Int) (n : Nat) (w : World) (h : w.ownsRow B 3 1 (.slice p n c) n (zs.map (.int .i64))) (hn : n ≤ 1000000) :
  Calls Tryd.prog 130 #[.slice p n c] w fun e w' => e = .returned (.tuple #[]) ∧ w'.ownsRow B 3 1 (.slice p n c) n (zs.reverse.map (.int .i64)) ∧ w.grownBy w' (Value.slice p n c).ownBlock := by
 by_cases hv : (Value.slice p n c) = .slice none 0 0
 ·cases hv
  have hz : zs = [] := by have := h.1; simpa using this
  subst hz
  refine (Any.slices_Reverse_int_empty Tryd.lays112 none 0 w).mono ?_
  rintro e w' ⟨rfl, rfl⟩
  exact ⟨rfl, (by simpa using h), ⟨rfl, rfl, rfl, Nat.le_refl _, fun _ _ _ => rfl⟩⟩
 ·obtain ⟨g, cap, hg, hb, hlt, hc, hm, hl, hH⟩ := holds_of_ownsRow h hv
  cases hg
  subst hl
  refine (Any.slices_Reverse_int Tryd.lays112 g 0 c zs w hH (by omega)).mono ?_
  rintro e w' ⟨rfl, q, rfl⟩
  have h1 := ownsRow_putRow (ys := zs.reverse) (q := q) (k := zs.length) h (by simp) (Nat.le_refl _)
  have e1 : zs.reverse.take zs.length = zs.reverse := List.take_of_length_le (by simp)
  rw [e1] at h1
  exact ⟨rfl, h1, putRow_grown⟩

def orderB (bs : List BlkL) : List Int := (postL bs).reverse

set_option maxRecDepth 100000 in
set_option maxHeartbeats 2000000 in
theorem orderOf_any (f : FunL) (fp : Option Addr) (fc : Nat) (w : World) (hn : 0 < f.blocks.length) (hl : f.blocks.length ≤ 100000) (h2 : ∀ k (h : k < f.blocks.length), f.blocks[k].fin.to.length ≤ 2) (hT : ∀ b, b < f.blocks.length → ∀ x ∈ tosB f.blocks b, 0 ≤ x ∧ x < (f.blocks.length : Int)) (hF : SliceAt w 6 (BlkR w) fp f.blocks) (hpl : (postL f.blocks).length ≤ 1000000) :
  Calls Tryd.prog 100 #[.agg #[.string f.name, .int .i64 f.params, .int .i64 f.regs, .slice fp f.blocks.length fc]] w fun e w' => ∃ v, e = .returned v ∧ w'.ownsRow w.heap.size 3 1 v (orderB f.blocks).length ((orderB f.blocks).map (.int .i64)) ∧ Below w.heap.size w w' := by
 have HF := hidI hF
 have H2 := hidI h2
 have HT := hidI hT
 clear hF h2 hT
 go_enter Tryd.func100, Tryd.ntmps100
 go_wp2_with fail
 refine (post_any f fp fc _ hn hl H2.out HT.out (blksMono HF.out (by repeat (first | (with_reducible first | exact bR _ _ | exact bH ‹_› | refine bD ?_ | refine bN ?_ _ | refine bS ?_ ?_ _ | refine bA ?_ ?_ _ | refine bT hb3 ?_ ?_ | refine bT hb5 ?_ ?_ | refine bT hb4 ?_ ?_) | omega | (simp; omega) | simp)))).mono ?_
 rintro e w2 ⟨v, rfl, hO, hb⟩
 obtain ⟨m, d, hv⟩ := own_slice hO
 subst hv
 have HB := hidI (show Below w.heap.size w w2 from Below.trans (by repeat (first | (with_reducible first | exact bR _ _ | exact bH ‹_› | refine bD ?_ | refine bN ?_ _ | refine bS ?_ ?_ _ | refine bA ?_ ?_ _ | refine bT hb3 ?_ ?_ | refine bT hb5 ?_ ?_ | refine bT hb4 ?_ ?_) | omega | (simp; omega) | simp)) (hb.mono (by simp)))
 have hO := ownsRow_base hO (B := w.heap.size) (by simp)
 have HLo := hidI (fun k (e : (Value.slice m (postL f.blocks).length d).ownBlock = some k) => (hO.lt k e).1)
 have hzz := HB.out.size
 have HO := hidI hO
 clear hO hb
 go_wp2_with fail
 refine (reverse_own _ _ _ _ _ _ HO.out hpl).mono ?_
 rintro e w3 ⟨rfl, hO3, hg3⟩
 have HO3 := hidI hO3
 have HB3 := hidI (HB.out.grown hg3 (by omega) fun k e => HLo.out k e)
 clear hO3 hg3
 go_wp2
 refine bodyPost_ret (results_tmp (t := 2) rfl _ _ _) rfl ⟨_, rfl, ?_, HB3.out⟩
 unfold orderB
 rw [List.length_reverse]
 exact HO3.out
end Go.Proofs.YtdjamkinijhjoaaDoor
