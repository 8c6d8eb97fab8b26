/-
  The contract of the walker's ins: calls.
The contract of the walker's ins: a number is read, a number is printed.
The contract of the walker's ins: a number is printed.
-/
import Derived.Test.YtdjamkinijhjoaaDoorRunE
import Derived.WalkKit
import Derived.WalkSpells
import Derived.WalkLawsBesides
import Derived.Test.YtdjamkinijhjoaaDoorBRunF
namespace Go.Proofs.YtdjamkinijhjoaaDoor
open Go.RowKit

set_option maxRecDepth 100000 in
set_option maxHeartbeats 4000000 in
/-- too many functions are under way -/
theorem wins_deep {L : Lies} {u : UniL} {w : World} {s : StL} (h : Walks L u w s) (hne : s.frames ≠ []) {op dst an bn fn : Int} {ar br : Bool} {args : List (Bool × Int)} (hop : op = 20) (ha : ValOk (topR s).length ar an) (hb : ValOk (topR s).length br bn)
    (hfr : s.frames.length = 30) (p : Option Addr) (c : Nat) :
    Calls Tryd.prog 126 #[.pointer (some ⟨L.W, 0, none⟩), .agg #[.int .i64 op, .int .i64 dst, .bool ar, .int .i64 an, .bool br, .int .i64 bn, .int .i64 fn, .slice p args.length c]] w fun e w' => e = .returned (.bool (insS u s ⟨op, dst, ar, an, br, bn, fn, args⟩).2) ∧ Walks L u w' (insS u s ⟨op, dst, ar, an, br, bn, fn, args⟩).1 := by
  have HV := hidI (h.vals hne)
  have HA := hidI ha
  have HBv := hidI hb
  have HW := hidI h
  subst hop
  have hi : insS u s ⟨20, dst, ar, an, br, bn, fn, args⟩ = ({ s with state := 4 }, false) := by
    unfold insS
    rw [if_neg (by simp), if_pos rfl, if_pos hfr]
  obtain ⟨ro, R, iv, ov, fv, h⟩ := h
  obtain ⟨F, cap, cur, hfv, _⟩ := h.frmO.2.resolve_left (by rintro ⟨_, h0⟩; omega)
  have c9 : w.cell? ⟨L.W, 9, none⟩ = some (.slice (some ⟨F, 0, none⟩) s.frames.length cap) := by rw [(blk h.head).1, ← hfv]; rfl
  have zW := lt_of_cell c9
  have hq : ((s.frames.length : Int) == 30) = true := by simp; omega
  have HI := hidI hi
  clear h hne ha hb hi hfr hfv
  (go_enter Tryd.func126, Tryd.ntmps126; go_wp2_with fail; (go_region_with (first | (go_at_call 141; refine (HV.out _ (by repeat (first | with_reducible exact Below.refl _ _ | with_reducible exact HB3.out | with_reducible refine Below.drew ?_ | with_reducible refine below_drewN ?_ _ | with_reducible refine Below.setCell ?_ ?_ _ | with_reducible refine Below.alloc ?_ ?_ _ | with_reducible exact HB2.out | with_reducible exact HB1.out | with_reducible refine Below.trans ?_ (Below.mono hb3 ?_) | with_reducible refine Below.trans ?_ (Below.mono hb5 ?_) | with_reducible refine Below.trans ?_ (Below.mono hb4 ?_) | omega | (simp; omega) | simp)) _ _ (by first | exact HA.out | exact HBv.out)).mono ?_; rintro e w1 ⟨rfl, hb1⟩; obtain ⟨hc1, hf1, hz1⟩ := bcell hb1; have HB1 : Hid (Below w.heap.size w w1) := Below.trans (by repeat (first | with_reducible exact Below.refl _ _ | with_reducible exact HB3.out | with_reducible refine Below.drew ?_ | with_reducible refine below_drewN ?_ _ | with_reducible refine Below.setCell ?_ ?_ _ | with_reducible refine Below.alloc ?_ ?_ _ | with_reducible exact HB2.out | with_reducible exact HB1.out | with_reducible refine Below.trans ?_ (Below.mono hb3 ?_) | with_reducible refine Below.trans ?_ (Below.mono hb5 ?_) | with_reducible refine Below.trans ?_ (Below.mono hb4 ?_) | omega | (simp; omega) | simp)) (hb1.mono (by first | omega | (simp; done) | (simp; omega))); have hzz := HB1.out.size; (try simp at hz1); have hzb : w.heap.size < w1.heap.size := (by omega); obtain ⟨hc2, hf2, _⟩ := bcell HB1.out))))
  all_goals
    go_wp2_with fail
    refine ((HW.out.mono (by repeat (first | with_reducible exact Below.refl _ _ | with_reducible exact HB3.out | with_reducible refine Below.drew ?_ | with_reducible refine below_drewN ?_ _ | with_reducible refine Below.setCell ?_ ?_ _ | with_reducible refine Below.alloc ?_ ?_ _ | with_reducible exact HB2.out | with_reducible exact HB1.out | with_reducible refine Below.trans ?_ (Below.mono hb3 ?_) | with_reducible refine Below.trans ?_ (Below.mono hb5 ?_) | with_reducible refine Below.trans ?_ (Below.mono hb4 ?_) | omega | (simp; omega) | simp))).stop 4).mono ?_
    rintro e w4 ⟨rfl, h4⟩
    have H4 := hidI h4
    clear h4
    go_wp2_with fail
    go_ret
    exact ⟨by rw [HI.out]; rfl, by rw [HI.out]; exact H4.out⟩
set_option maxRecDepth 100000 in
set_option maxHeartbeats 4000000 in
/-- a call -/
theorem wins_call {L : Lies} {u : UniL} {w : World} {s : StL} (hu : UOk u) (h : Walks L u w s) (hok : StOk u s) (hst : s.steps ≤ 1000000) (hF : SliceAt L.w0 4 (FunR L.w0) L.fp u.funcs) (hne : s.frames ≠ []) {op dst an bn fn : Int} {ar br : Bool} {args : List (Bool × Int)} (hop : op = 20) (ha : ValOk (topR s).length ar an) (hb : ValOk (topR s).length br bn)
    (hfr : s.frames.length < 30) (hfn : 0 ≤ fn ∧ fn < u.funcs.length) (hal : args.length ≤ (fnU u fn.toNat).regs.toNat) (hav : ∀ v ∈ args, ValOk (topR s).length v.1 v.2 ∧ I64 v.2) (p : Option Addr) (c : Nat) (hA0 : SliceAt w 2 ValR p args) :
    Calls Tryd.prog 126 #[.pointer (some ⟨L.W, 0, none⟩), .agg #[.int .i64 op, .int .i64 dst, .bool ar, .int .i64 an, .bool br, .int .i64 bn, .int .i64 fn, .slice p args.length c]] w fun e w' => e = .returned (.bool (insS u s ⟨op, dst, ar, an, br, bn, fn, args⟩).2) ∧ Walks L u w' (insS u s ⟨op, dst, ar, an, br, bn, fn, args⟩).1 := by
  obtain ⟨i1, k1, k2, k3, k4⟩ := info_parts infoInt9
  have HV := hidI (h.vals hne)
  have HA := hidI ha
  have HBv := hidI hb
  have HW := hidI h
  have HAr := hidI hA0
  have HAv := hidI hav
  have HU := hidI hu
  have HOk := hidI hok
  have HF := hidI hF
  have HTi := hidI (topR_i64 hok.frs)
  subst hop
  obtain ⟨k, rfl⟩ := Int.eq_ofNat_of_zero_le hfn.1
  have hk : k < u.funcs.length := by omega
  have har : (fnU u k).regs ≤ 100 := (hu.fn hk).2.2.2.2.2.1
  have har0 : 0 ≤ (fnU u k).regs := (hu.fn hk).2.2.2.2.1
  rw [Int.toNat_natCast] at hal
  have hi : insS u s ⟨20, dst, ar, an, br, bn, (k : Int), args⟩ = (enterS u s k dst (args.map fun v => valL (topR s) v.1 v.2), true) := by
    unfold insS
    rw [if_neg (by simp), if_pos rfl, if_neg (by omega)]
    rfl
  have hv1 : (args.map fun v => valL (topR s) v.1 v.2).length = args.length := List.length_map _
  have hv2 : ∀ i (h : i < args.length), (args.map fun v => valL (topR s) v.1 v.2)[i]? = some (valL (topR s) args[i].1 args[i].2) := fun i h => by rw [List.getElem?_map, List.getElem?_eq_getElem h]; rfl
  have hv3 : ∀ x ∈ (args.map fun v => valL (topR s) v.1 v.2), I64 x := fun x hx => by
    obtain ⟨v, hv, rfl⟩ := List.mem_map.1 hx
    exact valL_i64 HTi.out (hav v hv).2
  generalize (args.map fun v => valL (topR s) v.1 v.2) = N at *
  obtain ⟨ro, R, iv, ov, fv, h⟩ := h
  obtain ⟨F, cap, cur, hfv, _⟩ : ∃ F cap cur, fv = .slice (some ⟨F, 0, none⟩) s.frames.length cap ∧ cur = cap := by
    obtain ⟨F, cap, cur, hfv, _⟩ := h.frmO.2.resolve_left (by rintro ⟨_, h0⟩; exact hne (List.length_eq_zero_iff.1 h0))
    exact ⟨F, cap, cap, hfv, rfl⟩
  have c9 : w.cell? ⟨L.W, 9, none⟩ = some (.slice (some ⟨F, 0, none⟩) s.frames.length cap) := by rw [(blk h.head).1, ← hfv]; rfl
  have zW := lt_of_cell c9
  have hq : ((s.frames.length : Int) == 30) = false := by simp; omega
  have HE : Hid (∀ W ap ac, Below w.heap.size w W → SliceAt W 1 IntR ap N → Calls Tryd.prog 81 #[.pointer (some ⟨L.W, 0, none⟩), .int .i64 k, .int .i64 dst, .slice ap args.length ac] W fun e w' => e = .returned (.tuple #[]) ∧ Walks L u w' (enterS u s k dst N)) := fun W ap ac hW hN => by
    have := wenter_any HU.out (HW.out.mono hW) HOk.out hst HF.out hk dst N ap ac (by omega) hN
    rw [hv1] at this
    exact this
  have HI := hidI hi
  have HV1 := hidI hv1
  have HV2 := hidI hv2
  have HV3 := hidI hv3
  have h100 : args.length ≤ 100 := by omega
  clear h hne ha hb hi hfv hu hok hF hA0 hav hfn hv1 hv2 hv3 har har0
  (go_enter Tryd.func126, Tryd.ntmps126; go_wp2_with fail; (go_region_with (first | (go_at_call 141; refine (HV.out _ (by repeat (first | with_reducible exact Below.refl _ _ | with_reducible exact HB3.out | with_reducible refine Below.drew ?_ | with_reducible refine below_drewN ?_ _ | with_reducible refine Below.setCell ?_ ?_ _ | with_reducible refine Below.alloc ?_ ?_ _ | with_reducible exact HB2.out | with_reducible exact HB1.out | with_reducible refine Below.trans ?_ (Below.mono hb3 ?_) | with_reducible refine Below.trans ?_ (Below.mono hb5 ?_) | with_reducible refine Below.trans ?_ (Below.mono hb4 ?_) | omega | (simp; omega) | simp)) _ _ (by first | exact HA.out | exact HBv.out)).mono ?_; rintro e w1 ⟨rfl, hb1⟩; obtain ⟨hc1, hf1, hz1⟩ := bcell hb1; have HB1 : Hid (Below w.heap.size w w1) := Below.trans (by repeat (first | with_reducible exact Below.refl _ _ | with_reducible exact HB3.out | with_reducible refine Below.drew ?_ | with_reducible refine below_drewN ?_ _ | with_reducible refine Below.setCell ?_ ?_ _ | with_reducible refine Below.alloc ?_ ?_ _ | with_reducible exact HB2.out | with_reducible exact HB1.out | with_reducible refine Below.trans ?_ (Below.mono hb3 ?_) | with_reducible refine Below.trans ?_ (Below.mono hb5 ?_) | with_reducible refine Below.trans ?_ (Below.mono hb4 ?_) | omega | (simp; omega) | simp)) (hb1.mono (by first | omega | (simp; done) | (simp; omega))); have hzz := HB1.out.size; (try simp at hz1); have hzb : w.heap.size < w1.heap.size := (by omega); obtain ⟨hc2, hf2, _⟩ := bcell HB1.out))))
  all_goals
    have hbx : ∀ o, w1.cell? ⟨w.heap.size, o, none⟩ = (#[.int .i64 20, .int .i64 dst, .bool ar, .int .i64 an, .bool br, .int .i64 bn, .int .i64 (k : Int), .slice p args.length c] : Array Value)[o]? := fun o => (hc1 w.heap.size o (by omega)).trans (by go_simp)
    clear hc1 hf1 hb1
    go_wp2_with fail
    go_loopw [7, 88] (fun v i wr => ∃ m : Nat, m ≤ args.length ∧ i = .int .i64 m ∧ wr.ownsRow w1.heap.size 3 1 v m ((N.take m).map (.int .i64)) ∧ Below w1.heap.size w1 wr) (fun _ i _ => args.length - (intOf i).toNat)
    case atStart => exact ⟨0, by omega, rfl, by rw [List.take_zero]; exact World.ownsRow_nil _ _ _ _, by repeat (first | with_reducible exact Below.refl _ _ | with_reducible exact HB3.out | with_reducible refine Below.drew ?_ | with_reducible refine below_drewN ?_ _ | with_reducible refine Below.setCell ?_ ?_ _ | with_reducible refine Below.alloc ?_ ?_ _ | with_reducible exact HB2.out | with_reducible exact HB1.out | with_reducible refine Below.trans ?_ (Below.mono hb3 ?_) | with_reducible refine Below.trans ?_ (Below.mono hb5 ?_) | with_reducible refine Below.trans ?_ (Below.mono hb4 ?_) | omega | (simp; omega) | simp)⟩
    case round =>
      obtain ⟨m, hm, rfl, hown, hb⟩ := hrel
      obtain ⟨q, d, hq'⟩ := own_slice hown
      subst hq'
      have HO := hidI hown
      have HBr := hidI hb
      have HBw : Hid (Below w.heap.size w wr) := HB1.out.trans (hb.mono hzz)
      have hsz := hb.size
      by_cases hlt : m < args.length
      · obtain ⟨b2, o2, hp2, v0, v1, _⟩ := valGet HAr.out HBw.out hlt
        subst hp2
        have z2 := lt_of_cell v0
        obtain ⟨hva, _⟩ := HAv.out _ (List.getElem_mem hlt)
        have HVm := hidI (fun W (h : Below wr.heap.size wr W) => HV.out W (HBw.out.trans (h.mono HBw.out.size)) _ _ hva)
        have HNm := hidI (HV2.out m hlt)
        clear hown hb hva
        go_wp2_with fail
        refine (HVm.out _ (by repeat (first | with_reducible exact Below.refl _ _ | with_reducible exact HB3.out | with_reducible refine Below.drew ?_ | with_reducible refine below_drewN ?_ _ | with_reducible refine Below.setCell ?_ ?_ _ | with_reducible refine Below.alloc ?_ ?_ _ | with_reducible exact HB2.out | with_reducible exact HB1.out | with_reducible refine Below.trans ?_ (Below.mono hb3 ?_) | with_reducible refine Below.trans ?_ (Below.mono hb5 ?_) | with_reducible refine Below.trans ?_ (Below.mono hb4 ?_) | omega | (simp; omega) | simp))).mono ?_
        rintro e w5 ⟨rfl, hb5⟩
        have HB5 : Hid (Below wr.heap.size wr w5) := Below.trans (by repeat (first | with_reducible exact Below.refl _ _ | with_reducible exact HB3.out | with_reducible refine Below.drew ?_ | with_reducible refine below_drewN ?_ _ | with_reducible refine Below.setCell ?_ ?_ _ | with_reducible refine Below.alloc ?_ ?_ _ | with_reducible exact HB2.out | with_reducible exact HB1.out | with_reducible refine Below.trans ?_ (Below.mono hb3 ?_) | with_reducible refine Below.trans ?_ (Below.mono hb5 ?_) | with_reducible refine Below.trans ?_ (Below.mono hb4 ?_) | omega | (simp; omega) | simp)) (hb5.mono (by simp))
        have HO5 := hidI (ownsRow_below' HO.out HB5.out)
        clear hb5
        go_wp2_with (at_builtin; refine wpList_append_own_at _ rfl _ _ 46 rfl w1.heap.size 3 i1 (.int .i64 0) 1 8 underInts9 k1 k2 k3 k4 rfl (by decide) _ _ _ rfl (HO5.out.alloc _) ⟨w5.heap.size, 0, none⟩ 1 1 [.int .i64 (valL (topR s) args[m].1 args[m].2)] rfl rfl (cell_one_at _ _ _ _ rfl) (by simp [Value.oneCell']) ?_ ?_ ?_ ?_)
        · unfold maxLen; omega
        · omega
        · have := HB5.out.size; simp; omega
        intro v' w6 hown' hgrow _ _
        obtain ⟨g', cap', rfl⟩ := ownsRow_succ' hown'
        have HO6 : Hid (w6.ownsRow w1.heap.size 3 1 (.slice (some ⟨g', 0, none⟩) (m + 1) cap') (m + 1) ((N.take (m + 1)).map (.int .i64))) := by
          show World.ownsRow _ _ _ _ _ _ _
          rw [List.take_add_one, HNm.out, Option.toList_some, List.map_append, List.map_take]
          exact hown'
        have HB6 : Hid (Below w1.heap.size w1 w6) := by
          have h2 := HB5.out.size
          exact ((HBr.out.trans (HB5.out.mono hsz)).alloc (by omega) _).grown hgrow (by simp; omega) (fun x e => (HO.out.lt x e).1)
        clear hown' hgrow
        go_wp2_with fail
        exact ⟨⟨m + 1, by omega, by go_num, HO6.out, HB6.out⟩, by simp [intOf]; omega⟩
      · obtain rfl : m = args.length := by omega
        have hb0 := fun o => (hb.cell (p := ⟨w.heap.size, o, none⟩) hzb).trans (hbx o)
        have y1 := hb0 1
        have y6 := hb0 6
        have zy : w.heap.size < wr.heap.size := by omega
        have hN : SliceAt wr 1 IntR q N := by
          have ho := HO.out
          rw [← HV1.out, List.take_length] at ho
          obtain ⟨p', c', e, hs⟩ := own_ints rfl ho HV3.out
          simp only [Value.slice.injEq] at e
          obtain ⟨rfl, _, _⟩ := e
          exact hs
        have HEE := hidI (fun W (h : Below wr.heap.size wr W) => HE.out W q d (HBw.out.trans (h.mono HBw.out.size)) (hN.mono h (by omega) fun _ _ g => g))
        clear hown hb hb0 hN
        go_wp2_with fail
        refine (HEE.out _ (by repeat (first | with_reducible exact Below.refl _ _ | with_reducible exact HB3.out | with_reducible refine Below.drew ?_ | with_reducible refine below_drewN ?_ _ | with_reducible refine Below.setCell ?_ ?_ _ | with_reducible refine Below.alloc ?_ ?_ _ | with_reducible exact HB2.out | with_reducible exact HB1.out | with_reducible refine Below.trans ?_ (Below.mono hb3 ?_) | with_reducible refine Below.trans ?_ (Below.mono hb5 ?_) | with_reducible refine Below.trans ?_ (Below.mono hb4 ?_) | omega | (simp; omega) | simp))).mono ?_
        rintro e w6 ⟨rfl, h6⟩
        have H6 := hidI h6
        clear h6
        go_wp2_with fail
        go_ret
        exact ⟨by rw [HI.out]; rfl, by rw [HI.out]; exact H6.out⟩
end Go.Proofs.YtdjamkinijhjoaaDoor
namespace Go.Proofs.YtdjamkinijhjoaaDoor
open Go.RowKit

set_option maxRecDepth 100000 in
set_option maxHeartbeats 4000000 in
theorem wins_read1 {L : Lies} {u : UniL} {w : World} {s : StL} (h : Walks L u w s) (hne : s.frames ≠ []) {op dst an bn fn : Int} {ar br : Bool} {args : List (Bool × Int)} (hop : op = 21) (ha : ValOk (topR s).length ar an) (hb : ValOk (topR s).length br bn)
    {x : Int} {l : List Int} (hin : s.inp = x :: l) (hll : l.length ≤ 140737488355328) (hd : dst < (topR s).length ∨ dst < 0) (p : Option Addr) (c : Nat) :
    Calls Tryd.prog 126 #[.pointer (some ⟨L.W, 0, none⟩), .agg #[.int .i64 op, .int .i64 dst, .bool ar, .int .i64 an, .bool br, .int .i64 bn, .int .i64 fn, .slice p args.length c]] w fun e w' => e = .returned (.bool (insS u s ⟨op, dst, ar, an, br, bn, fn, args⟩).2) ∧ Walks L u w' (insS u s ⟨op, dst, ar, an, br, bn, fn, args⟩).1 := by
  have HV := hidI (h.vals hne)
  have HA := hidI ha
  have HBv := hidI hb
  have HD := hidI hd
  have HNE := hidI hne
  subst hop
  have hi : insS u s ⟨21, dst, ar, an, br, bn, fn, args⟩ = (putS { s with inp := l } dst x, true) := by
    unfold insS
    rw [if_neg (by simp), if_neg (by simp), if_pos rfl, hin]
  obtain ⟨ro, R, iv, ov, fv, h⟩ := h
  obtain ⟨ip, ic, _, hic, c4, hipn, hS⟩ := h.inpV
  have zW := lt_of_cell c4
  have f4 := (blk h.head).2 4
  rw [hin] at c4 hic hS
  obtain ⟨b, o, rfl, cx, _⟩ := intGet hS h.below (i := 0) (by simp)
  simp only [Nat.add_zero, List.getElem_cons_zero] at cx
  have zb := lt_of_cell cx
  have hl1 : (x :: l).length = l.length + 1 := rfl
  rw [hl1] at c4 hic
  have HI := hidI hi
  by_cases hc1 : ic = 1
  · have hl0 : l = [] := by
      apply List.eq_nil_of_length_eq_zero
      omega
    have HP : Hid (∀ X, Below w.heap.size w X → WalkR L u (X.setCell ⟨L.W, 4, none⟩ (.slice (some ⟨b, o, none⟩) 0 0)) ro R (.slice (some ⟨b, o, none⟩) 0 0) ov fv { s with inp := l }) := fun X hX => by
      have hm := h.mono hX
      exact hm.setW (s' := { s with inp := l }) (grown_set X ⟨L.W, 4, none⟩ _) (by rw [heap_set hm.head]; rfl) rfl rfl rfl rfl ⟨some ⟨b, o, none⟩, 0, by show _ = Value.slice _ l.length _; rw [hl0]; rfl, by show l.length ≤ _; rw [hl0]; exact Nat.le_refl _, by simp, .inl hl0⟩
    subst hc1
    clear h hne ha hb hi hd hin hS hl1 hipn
    (go_enter Tryd.func126, Tryd.ntmps126; go_wp2_with fail; (go_region_with (first | (go_at_call 141; refine (HV.out _ (by repeat (first | with_reducible exact Below.refl _ _ | with_reducible exact HB3.out | with_reducible refine Below.drew ?_ | with_reducible refine below_drewN ?_ _ | with_reducible refine Below.setCell ?_ ?_ _ | with_reducible refine Below.alloc ?_ ?_ _ | with_reducible exact HB2.out | with_reducible exact HB1.out | with_reducible refine Below.trans ?_ (Below.mono hb3 ?_) | with_reducible refine Below.trans ?_ (Below.mono hb5 ?_) | with_reducible refine Below.trans ?_ (Below.mono hb4 ?_) | omega | (simp; omega) | simp)) _ _ (by first | exact HA.out | exact HBv.out)).mono ?_; rintro e w1 ⟨rfl, hb1⟩; obtain ⟨hc1, hf1, hz1⟩ := bcell hb1; have HB1 : Hid (Below w.heap.size w w1) := Below.trans (by repeat (first | with_reducible exact Below.refl _ _ | with_reducible exact HB3.out | with_reducible refine Below.drew ?_ | with_reducible refine below_drewN ?_ _ | with_reducible refine Below.setCell ?_ ?_ _ | with_reducible refine Below.alloc ?_ ?_ _ | with_reducible exact HB2.out | with_reducible exact HB1.out | with_reducible refine Below.trans ?_ (Below.mono hb3 ?_) | with_reducible refine Below.trans ?_ (Below.mono hb5 ?_) | with_reducible refine Below.trans ?_ (Below.mono hb4 ?_) | omega | (simp; omega) | simp)) (hb1.mono (by first | omega | (simp; done) | (simp; omega))); have hzz := HB1.out.size; (try simp at hz1); have hzb : w.heap.size < w1.heap.size := (by omega); obtain ⟨hc2, hf2, _⟩ := bcell HB1.out))))
    all_goals
      go_wp2_with fail
      refine (wset_any (HP.out _ (by repeat (first | with_reducible exact Below.refl _ _ | with_reducible exact HB3.out | with_reducible refine Below.drew ?_ | with_reducible refine below_drewN ?_ _ | with_reducible refine Below.setCell ?_ ?_ _ | with_reducible refine Below.alloc ?_ ?_ _ | with_reducible exact HB2.out | with_reducible exact HB1.out | with_reducible refine Below.trans ?_ (Below.mono hb3 ?_) | with_reducible refine Below.trans ?_ (Below.mono hb5 ?_) | with_reducible refine Below.trans ?_ (Below.mono hb4 ?_) | omega | (simp; omega) | simp))) HNE.out dst x HD.out).mono ?_
      rintro e w4 ⟨rfl, h4⟩
      have H4 := hidI h4
      clear h4
      go_wp2_with fail
      go_ret
      exact ⟨by rw [HI.out]; rfl, by rw [HI.out]; exact H4.out.walks⟩
  · have hS2 : SliceAt L.w0 1 IntR (some ⟨b, o + 1, none⟩) l := by
      rcases hS with h0 | ⟨b', o', hp, hS⟩
      · cases h0
      · cases hp
        refine .inr ⟨b, o + 1, rfl, fun i hi => ?_⟩
        obtain ⟨cs, h1, h2, h3⟩ := hS (i + 1) (by simpa using hi)
        refine ⟨cs, h1, fun j hj => ?_, by simpa using h3⟩
        have := h2 j hj
        rw [← this]
        congr 2
        omega
    have HP : Hid (∀ X, Below w.heap.size w X → WalkR L u (X.setCell ⟨L.W, 4, none⟩ (.slice (some ⟨b, o + 1, none⟩) l.length (ic - 1))) ro R (.slice (some ⟨b, o + 1, none⟩) l.length (ic - 1)) ov fv { s with inp := l }) := fun X hX => by
      have hm := h.mono hX
      exact hm.setW (s' := { s with inp := l }) (grown_set X ⟨L.W, 4, none⟩ _) (by rw [heap_set hm.head]; rfl) rfl rfl rfl rfl ⟨_, _, rfl, by show l.length ≤ _; omega, by simp, hS2⟩
    clear h hne ha hb hi hd hin hS hS2 hl1 hipn
    (go_enter Tryd.func126, Tryd.ntmps126; go_wp2_with fail; (go_region_with (first | (go_at_call 141; refine (HV.out _ (by repeat (first | with_reducible exact Below.refl _ _ | with_reducible exact HB3.out | with_reducible refine Below.drew ?_ | with_reducible refine below_drewN ?_ _ | with_reducible refine Below.setCell ?_ ?_ _ | with_reducible refine Below.alloc ?_ ?_ _ | with_reducible exact HB2.out | with_reducible exact HB1.out | with_reducible refine Below.trans ?_ (Below.mono hb3 ?_) | with_reducible refine Below.trans ?_ (Below.mono hb5 ?_) | with_reducible refine Below.trans ?_ (Below.mono hb4 ?_) | omega | (simp; omega) | simp)) _ _ (by first | exact HA.out | exact HBv.out)).mono ?_; rintro e w1 ⟨rfl, hb1⟩; obtain ⟨hc1, hf1, hz1⟩ := bcell hb1; have HB1 : Hid (Below w.heap.size w w1) := Below.trans (by repeat (first | with_reducible exact Below.refl _ _ | with_reducible exact HB3.out | with_reducible refine Below.drew ?_ | with_reducible refine below_drewN ?_ _ | with_reducible refine Below.setCell ?_ ?_ _ | with_reducible refine Below.alloc ?_ ?_ _ | with_reducible exact HB2.out | with_reducible exact HB1.out | with_reducible refine Below.trans ?_ (Below.mono hb3 ?_) | with_reducible refine Below.trans ?_ (Below.mono hb5 ?_) | with_reducible refine Below.trans ?_ (Below.mono hb4 ?_) | omega | (simp; omega) | simp)) (hb1.mono (by first | omega | (simp; done) | (simp; omega))); have hzz := HB1.out.size; (try simp at hz1); have hzb : w.heap.size < w1.heap.size := (by omega); obtain ⟨hc2, hf2, _⟩ := bcell HB1.out))))
    all_goals
      go_wp2_with fail
      refine (wset_any (HP.out _ (by repeat (first | with_reducible exact Below.refl _ _ | with_reducible exact HB3.out | with_reducible refine Below.drew ?_ | with_reducible refine below_drewN ?_ _ | with_reducible refine Below.setCell ?_ ?_ _ | with_reducible refine Below.alloc ?_ ?_ _ | with_reducible exact HB2.out | with_reducible exact HB1.out | with_reducible refine Below.trans ?_ (Below.mono hb3 ?_) | with_reducible refine Below.trans ?_ (Below.mono hb5 ?_) | with_reducible refine Below.trans ?_ (Below.mono hb4 ?_) | omega | (simp; omega) | simp))) HNE.out dst x HD.out).mono ?_
      rintro e w4 ⟨rfl, h4⟩
      have H4 := hidI h4
      clear h4
      go_wp2_with fail
      go_ret
      exact ⟨by rw [HI.out]; rfl, by rw [HI.out]; exact H4.out.walks⟩
end Go.Proofs.YtdjamkinijhjoaaDoor
namespace Go.Proofs.YtdjamkinijhjoaaDoor
open Go.RowKit

set_option maxRecDepth 100000 in
set_option maxHeartbeats 4000000 in
theorem wins_print {L : Lies} {u : UniL} {w : World} {s : StL} (h : Walks L u w s) (hne : s.frames ≠ []) {op dst an bn fn : Int} {ar br : Bool} {args : List (Bool × Int)} (hop : op = 22) (ha : ValOk (topR s).length ar an) (hb : ValOk (topR s).length br bn)
    (hout : s.outs.length < 200) (p : Option Addr) (c : Nat) :
    Calls Tryd.prog 126 #[.pointer (some ⟨L.W, 0, none⟩), .agg #[.int .i64 op, .int .i64 dst, .bool ar, .int .i64 an, .bool br, .int .i64 bn, .int .i64 fn, .slice p args.length c]] w fun e w' => e = .returned (.bool (insS u s ⟨op, dst, ar, an, br, bn, fn, args⟩).2) ∧ Walks L u w' (insS u s ⟨op, dst, ar, an, br, bn, fn, args⟩).1 := by
  obtain ⟨i1, k1, k2, k3, k4⟩ := info_parts infoInt9
  have HV := hidI (h.vals hne)
  have HA := hidI ha
  have HBv := hidI hb
  subst hop
  have hi : insS u s ⟨22, dst, ar, an, br, bn, fn, args⟩ = ({ s with outs := s.outs ++ [valL (topR s) ar an] }, true) := by
    unfold insS
    rw [if_neg (by simp), if_neg (by simp), if_neg (by simp), if_pos rfl, if_neg (by omega)]
  obtain ⟨ro, R, iv, ov, fv, h⟩ := h
  obtain ⟨q, oc, hov⟩ := own_slice h.outO
  have c7 : w.cell? ⟨L.W, 7, none⟩ = some (.slice q s.outs.length oc) := by rw [(blk h.head).1, ← hov]; rfl
  have f7 := (blk h.head).2 7
  have zW := lt_of_cell c7
  have hq : ((s.outs.length : Int) == 200) = false := by rw [beq_eq_false_iff_ne]; omega
  have zH := h.below.size
  have HI := hidI hi
  have H := hidI h
  have HOv := hidI hov
  clear h hne ha hb hi hov
  (go_enter Tryd.func126, Tryd.ntmps126; go_wp2_with fail; (go_region_with (first | (go_at_call 141; refine (HV.out _ (by repeat (first | with_reducible exact Below.refl _ _ | with_reducible exact HB3.out | with_reducible refine Below.drew ?_ | with_reducible refine below_drewN ?_ _ | with_reducible refine Below.setCell ?_ ?_ _ | with_reducible refine Below.alloc ?_ ?_ _ | with_reducible exact HB2.out | with_reducible exact HB1.out | with_reducible refine Below.trans ?_ (Below.mono hb3 ?_) | with_reducible refine Below.trans ?_ (Below.mono hb5 ?_) | with_reducible refine Below.trans ?_ (Below.mono hb4 ?_) | omega | (simp; omega) | simp)) _ _ (by first | exact HA.out | exact HBv.out)).mono ?_; rintro e w1 ⟨rfl, hb1⟩; obtain ⟨hc1, hf1, hz1⟩ := bcell hb1; have HB1 : Hid (Below w.heap.size w w1) := Below.trans (by repeat (first | with_reducible exact Below.refl _ _ | with_reducible exact HB3.out | with_reducible refine Below.drew ?_ | with_reducible refine below_drewN ?_ _ | with_reducible refine Below.setCell ?_ ?_ _ | with_reducible refine Below.alloc ?_ ?_ _ | with_reducible exact HB2.out | with_reducible exact HB1.out | with_reducible refine Below.trans ?_ (Below.mono hb3 ?_) | with_reducible refine Below.trans ?_ (Below.mono hb5 ?_) | with_reducible refine Below.trans ?_ (Below.mono hb4 ?_) | omega | (simp; omega) | simp)) (hb1.mono (by first | omega | (simp; done) | (simp; omega))); have hzz := HB1.out.size; (try simp at hz1); have hzb : w.heap.size < w1.heap.size := (by omega); obtain ⟨hc2, hf2, _⟩ := bcell HB1.out))))
  all_goals
    have H1 := hidI (H.out.mono HB1.out)
    have HOw : Hid (w1.ownsRow L.w0.heap.size 3 1 (.slice q s.outs.length oc) s.outs.length (s.outs.map (.int .i64))) := by rw [← HOv.out]; exact H1.out.outO
    have hzw : L.W < w1.heap.size := by omega
    go_wp2_with (at_builtin; refine wpList_append_own_at _ rfl _ _ 46 rfl L.w0.heap.size 3 i1 (.int .i64 0) 1 8 underInts9 k1 k2 k3 k4 rfl (by decide) _ _ _ rfl (HOw.out.alloc _) ⟨w1.heap.size, 0, none⟩ 1 1 [.int .i64 (valL (topR s) ar an)] rfl rfl (cell_one_at _ _ _ _ rfl) (by simp [Value.oneCell']) ?_ ?_ ?_ ?_)
    · unfold maxLen; omega
    · omega
    · simp; omega
    intro v' w6 hown' hgrow _ hv'
    obtain ⟨g', cap', rfl⟩ := ownsRow_succ' hown'
    have hfne : ∀ g, (Value.slice q s.outs.length oc).ownBlock = some g → g < w.heap.size ∧ g ≠ L.W := fun g e => by
      rw [← HOv.out] at e
      exact ⟨(H.out.outO.lt g e).2, fun e2 => by subst e2; have := H.out.roO _ e; have := H.out.roW; omega⟩
    have hg2 : w.grownBy w6 ov.ownBlock := by
      rw [HOv.out]
      exact grown_trans (by repeat (first | with_reducible exact Below.refl _ _ | with_reducible exact HB3.out | with_reducible refine Below.drew ?_ | with_reducible refine below_drewN ?_ _ | with_reducible refine Below.setCell ?_ ?_ _ | with_reducible refine Below.alloc ?_ ?_ _ | with_reducible exact HB2.out | with_reducible exact HB1.out | with_reducible refine Below.trans ?_ (Below.mono hb3 ?_) | with_reducible refine Below.trans ?_ (Below.mono hb5 ?_) | with_reducible refine Below.trans ?_ (Below.mono hb4 ?_) | omega | (simp; omega) | simp)) hgrow
    have hh2 : w6.heap[L.W]? = some (.cells (headC L u iv ov fv s) 148 (0, 0)) := (hg2.block _ zW (fun e => by rw [HOv.out] at e; exact (hfne _ e.symm).2 rfl)).trans H.out.head
    have HPs := hidI (H.out.print (x := valL (topR s) ar an) (w'' := w6.setCell ⟨L.W, 7, none⟩ (.slice (some ⟨g', 0, none⟩) (s.outs.length + 1) cap')) hg2 hown'
      (by
        rw [HOv.out]
        refine hv'.imp id fun e g e2 => ?_
        rw [e] at e2
        cases e2
        first | omega | (simp; omega)) (grown_set _ _ _) (by rw [heap_set hh2]; rfl))
    have d7 := (blk hh2).1 7
    have q7 := (blk hh2).2 7
    have zW2 : L.W < w6.heap.size := (Array.getElem?_eq_some_iff.1 hh2).1
    clear hown' hgrow hv' hfne hg2 hh2
    go_wp2_with fail
    go_ret
    exact ⟨by rw [HI.out]; rfl, by rw [HI.out]; exact HPs.out.walks⟩
end Go.Proofs.YtdjamkinijhjoaaDoor
