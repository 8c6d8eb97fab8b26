/-
  The contracts of the walker's top, val, set and stop.
  The contract of the walker's enter.
-/
import Derived.BigQuiet
import Derived.Deep.QuietTactic
import Derived.WalkKit
import Derived.WalkSpells
import Derived.WalkLawsBesides
import Derived.Test.YtdjamkinijhjoaaDoorRunW
import Derived.Laws.CopyOwn
import Derived.Maps.AppendAt
namespace Go.Proofs.YtdjamkinijhjoaaDoor
open Go.RowKit

theorem WalkR.frm {L : Lies} {u : UniL} {w : World} {ro R : Nat → Nat} {iv ov fv : Value} {s : StL} (h : WalkR L u w ro R iv ov fv s) {f : FrL} {rest : List FrL} (hs : s.frames = f :: rest) :
  ∃ F cap, fv = .slice (some ⟨F, 0, none⟩) s.frames.length cap ∧ s.frames.length = rest.length + 1 ∧ rest.length + 1 ≤ cap ∧ rest.length + 1 ≤ 9223372036854775807 ∧
   w.cell? ⟨L.W, 9, none⟩ = some (.slice (some ⟨F, 0, none⟩) (rest.length + 1) cap) ∧
   w.cell? ⟨F, rest.length * 5, none⟩ = some (.int .i64 f.fn) ∧ w.cell? ⟨F, rest.length * 5 + 1, none⟩ = some (.int .i64 f.block) ∧ w.cell? ⟨F, rest.length * 5 + 2, none⟩ = some (.int .i64 f.pos) ∧
   w.cell? ⟨F, rest.length * 5 + 3, none⟩ = some (.slice (some ⟨R rest.length, 0, none⟩) f.regs.length f.regs.length) ∧ w.cell? ⟨F, rest.length * 5 + 4, none⟩ = some (.int .i64 f.dst) := by
 have hlen : s.frames.length = rest.length + 1 := by rw [hs]; rfl
 have ho := h.frmO
 obtain ⟨F, cap, cur, rfl, _, _, h1, h2, _, _⟩ := ho.2.resolve_left (by rintro ⟨_, h⟩; omega)
 have ht := frCells_top R f rest
 have hc : ∀ j, j < s.frames.length * 5 → w.cell? ⟨F, j, none⟩ = (frCells R (f :: rest))[j]? := fun j hj => by rw [← hs]; exact ho.cellAt j hj
 refine ⟨F, cap, rfl, hlen, by omega, by unfold maxLen at h2; omega, ?_, ?_, ?_, ?_, ?_, ?_⟩
 ·rw [(blk h.head).1, ← hlen]; rfl
 ·rw [hc _ (by omega)]; exact ht.1
 ·rw [hc _ (by omega)]; exact ht.2.1
 ·rw [hc _ (by omega)]; exact ht.2.2.1
 ·rw [hc _ (by omega)]; exact ht.2.2.2.1
 ·rw [hc _ (by omega)]; exact ht.2.2.2.2

theorem WalkR.frmZ {L : Lies} {u : UniL} {w : World} {ro R : Nat → Nat} {iv ov fv : Value} {s : StL} (h : WalkR L u w ro R iv ov fv s) {F cap : Nat} (hv : fv = .slice (some ⟨F, 0, none⟩) s.frames.length cap) (j : Nat) : w.frozen? ⟨F, j, none⟩ = false := by
 have ho := h.frmO
 rw [hv] at ho
 exact ho.frozenAt j
set_option maxHeartbeats 1000000 in
theorem top_any {L : Lies} {u : UniL} {w : World} {ro R : Nat → Nat} {iv ov fv : Value} {s : StL} (h : WalkR L u w ro R iv ov fv s) {f : FrL} {rest : List FrL} (hs : s.frames = f :: rest) {F cap : Nat} (hv : fv = .slice (some ⟨F, 0, none⟩) s.frames.length cap) :
  Calls Tryd.prog 124 #[.pointer (some ⟨L.W, 0, none⟩)] w fun e w' => e = .returned (.pointer (some ⟨F, rest.length * 5, none⟩)) ∧ ∃ n, w' = w.drewN n := by
 obtain ⟨F', cap', hv', hlen, hcap, hl, c9, _⟩ := h.frm hs
 rw [hv] at hv'
 cases hv'
 have zW := lt_of_cell c9
 have g0 : (0 : Int) ≤ (rest.length : Int) := by omega
 clear h hs hv
 go_enter Tryd.func124, Tryd.ntmps124
 go_wp2
 go_quiet (fail)
 go_wp2
 go_ret
 exact ⟨by simp, _, rfl⟩

theorem idx_at {xs : List Nat} {x k : Nat} (hk : k < xs.length) (h : xs[k] = x) (hv : ∀ j (h : j < xs.length), j < k → xs[j] ≠ x) : xs.idxOf x = k := by
 have h1 : xs.idxOf x < xs.length := List.idxOf_lt_length_iff.2 (h ▸ List.getElem_mem hk)
 have h2 : xs[xs.idxOf x] = x := List.getElem_idxOf h1
 rcases Nat.lt_trichotomy (xs.idxOf x) k with g | g | g
 ·exact absurd h2 (hv _ h1 g)
 ·exact g
 ·have := List.not_of_lt_findIdx (p := (· == x)) (xs := xs) (i := k) g
  simp [h] at this
set_option maxHeartbeats 400000 in
theorem indexI_any (xs : List Nat) (b c x : Nat) (w : World) (hn : xs.length ≤ 9223372036854775807) (hc : ∀ i (h : i < xs.length), w.cell? ⟨b, i, none⟩ = some (.int .i64 (xs[i] : Int))) (hx : x ∈ xs) :
  Calls Tryd.prog 155 #[.slice (some ⟨b, 0, none⟩) xs.length c, .int .i64 x] w fun e w' => e = .returned (.int .i64 (xs.idxOf x)) ∧ w' = w := by
 have HX := hidI hx
 have HC := hidI hc
 clear hx hc
 go_enter Tryd.func155, Tryd.ntmps155
 go_wp2
 go_loop [8] (fun i => ∃ k : Nat, k ≤ xs.length ∧ i = .int .i64 k ∧ ∀ j (h : j < xs.length), j < k → xs[j] ≠ x) (fun i => xs.length - (intOf i).toNat)
 case atStart => exact ⟨0, by omega, rfl, fun j _ hj => by omega⟩
 case round =>
  obtain ⟨k, hk, rfl, hV⟩ := hrel
  have HV := hidI hV
  clear hV
  by_cases hlt : k < xs.length
  ·have c0 := HC.out k hlt
   have Hlt := hidI hlt
   by_cases he : xs[k] = x
   ·have HE := hidI he
    have hq : ((x : Int) == (xs[k] : Int)) = true := by simp [he]
    clear he
    go_wp2
    go_ret
    refine ⟨?_, rfl⟩
    rw [idx_at Hlt.out HE.out HV.out]
    rfl
   ·have HE := hidI he
    have hq : ((x : Int) == (xs[k] : Int)) = false := by simp; omega
    clear he
    go_wp2
    refine ⟨⟨k + 1, by omega, by go_num, fun j h1 hj => ?_⟩, by simp [intOf]; omega⟩
    by_cases hj2 : j < k
    ·exact HV.out j h1 hj2
    ·obtain rfl : j = k := by omega
     exact HE.out
  ·exfalso
   obtain ⟨j, hj, e⟩ := List.mem_iff_getElem.1 HX.out
   exact HV.out j hj (by omega) e
theorem WalkR.reg {L : Lies} {u : UniL} {w : World} {ro R : Nat → Nat} {iv ov fv : Value} {s : StL} (h : WalkR L u w ro R iv ov fv s) {f : FrL} {rest : List FrL} (hs : s.frames = f :: rest) : w.rowIs (R rest.length) 3 f.regs.length (fun j => .int .i64 (f.regs.getD j 0)) := by
 have h1 := h.regs
 rw [hs] at h1
 exact h1.1

set_option maxHeartbeats 1000000 in
theorem wval_any {L : Lies} {u : UniL} {w : World} {ro R : Nat → Nat} {iv ov fv : Value} {s : StL} (h : WalkR L u w ro R iv ov fv s) (hne : s.frames ≠ []) (r : Bool) (n : Int) (hv : ValOk (topR s).length r n) :
  Calls Tryd.prog 141 #[.pointer (some ⟨L.W, 0, none⟩), .agg #[.bool r, .int .i64 n]] w fun e w' => e = .returned (.int .i64 (valL (topR s) r n)) ∧ Below w.heap.size w w' := by
 cases hs : s.frames with
 | nil => exact absurd hs hne
 | cons f rest =>
  have ht : topR s = f.regs := by unfold topR; rw [hs]
  rw [ht] at hv ⊢
  cases r with
  | false =>
   have HV : Hid (valL f.regs false n = n) := rfl
   clear h hv ht hs
   go_enter Tryd.func141, Tryd.ntmps141
   go_wp2
   go_ret
   exact ⟨by rw [HV.out]; rfl, by repeat (first | (with_reducible first | exact bR _ _ | exact bH ‹_› | refine bD ?_ | refine bN ?_ _ | refine bS ?_ ?_ _ | refine bA ?_ ?_ _ | refine bT hb3 ?_ ?_ | refine bT hb5 ?_ ?_ | refine bT hb4 ?_ ?_) | omega | (simp; omega) | simp)⟩
  | true =>
   obtain ⟨h0, h1⟩ := hv rfl
   obtain ⟨k, rfl⟩ := Int.eq_ofNat_of_zero_le h0
   have hk : k < f.regs.length := by omega
   obtain ⟨F, cap, hfv, hlen, hcap, hl, c9, _, _, _, c3, _⟩ := h.frm hs
   have hreg := h.reg hs
   have HT := hidI (fun W hb => top_any (h.mono (w' := W) hb) hs hfv)
   have cr := hreg.cell hk
   have zF := lt_of_cell c3
   have zR := hreg.lt
   have HV : Hid (valL f.regs true (k : Int) = f.regs.getD k 0) := by show _ = _; unfold valL; simp
   generalize f.regs.getD k 0 = x at *
   have g0 : (0 : Int) ≤ (k : Int) := by omega
   have g1 : (k : Int) < f.regs.length := by omega
   clear h hv ht hs hreg c9 hfv
   go_enter Tryd.func141, Tryd.ntmps141
   go_wp2
   go_quiet ((go_at_call 124; refine Calls.quiet_of (HT.out _ ?_); repeat (first | (with_reducible first | exact bR _ _ | exact bH ‹_› | refine bD ?_ | refine bN ?_ _ | refine bS ?_ ?_ _ | refine bA ?_ ?_ _ | refine bT hb3 ?_ ?_ | refine bT hb5 ?_ ?_ | refine bT hb4 ?_ ?_) | omega | (simp; omega) | simp)))
   go_wp2
   go_ret
   exact ⟨by rw [HV.out]; rfl, by repeat (first | (with_reducible first | exact bR _ _ | exact bH ‹_› | refine bD ?_ | refine bN ?_ _ | refine bS ?_ ?_ _ | refine bA ?_ ?_ _ | refine bT hb3 ?_ ?_ | refine bT hb5 ?_ ?_ | refine bT hb4 ?_ ?_) | omega | (simp; omega) | simp)⟩

set_option maxHeartbeats 1000000 in
theorem wstop_any {L : Lies} {u : UniL} {w : World} {ro R : Nat → Nat} {iv ov fv : Value} {s : StL} (h : WalkR L u w ro R iv ov fv s) (n : Int) :
  Calls Tryd.prog 83 #[.pointer (some ⟨L.W, 0, none⟩), .int .i64 n] w fun e w' => e = .returned (.bool false) ∧ WalkR L u w' ro R iv ov fv { s with state := n } := by
 have hb := blk h.head
 have c5 : w.cell? ⟨L.W, 5, none⟩ = some (.int .i64 s.state) := by rw [hb.1]; rfl
 have f5 := hb.2 5
 have zW := lt_of_cell c5
 have HH : Hid (WalkR L u (w.setCell ⟨L.W, 5, none⟩ (.int .i64 n)) ro R iv ov fv { s with state := n }) :=
  h.setW (s' := { s with state := n }) (grown_set w ⟨L.W, 5, none⟩ _) (by rw [heap_set h.head]; rfl) rfl rfl rfl rfl h.inp
 clear h hb
 go_enter Tryd.func83, Tryd.ntmps83
 go_wp2
 go_ret
 exact ⟨rfl, HH.out⟩

set_option maxHeartbeats 1000000 in
theorem wset_any {L : Lies} {u : UniL} {w : World} {ro R : Nat → Nat} {iv ov fv : Value} {s : StL} (h : WalkR L u w ro R iv ov fv s) (hne : s.frames ≠ []) (dst n : Int) (hd : dst < (topR s).length ∨ dst < 0) :
  Calls Tryd.prog 142 #[.pointer (some ⟨L.W, 0, none⟩), .int .i64 dst, .int .i64 n] w fun e w' => e = .returned (.tuple #[]) ∧ WalkR L u w' ro R iv ov fv (putS s dst n) := by
 cases hs : s.frames with
 | nil => exact absurd hs hne
 | cons f rest =>
  have ht : topR s = f.regs := by unfold topR; rw [hs]
  rw [ht] at hd
  by_cases h0 : 0 ≤ dst
  ·obtain ⟨k, rfl⟩ := Int.eq_ofNat_of_zero_le h0
   have hk : k < f.regs.length := by omega
   obtain ⟨F, cap, hfv, hlen, hcap, hl, c9, _, _, _, c3, _⟩ := h.frm hs
   have hreg := h.reg hs
   have HT := hidI (fun W hb => top_any (h.mono (w' := W) hb) hs hfv)
   have cr := hreg.cell hk
   have cf := hreg.frozen k
   have zF := lt_of_cell c3
   have zR := hreg.lt
   have HH : Hid (∀ W, Below w.heap.size w W → WalkR L u (W.setCell ⟨R rest.length, k, none⟩ (.int .i64 n)) ro R iv ov fv (putS s (k : Int) n)) := fun W hb => by
    have h2 := (h.mono hb).setReg hs hk n
    unfold putS
    rw [hs]
    simp only [setL, h0, if_true, Int.toNat_natCast]
    exact h2
   have g0 : (0 : Int) ≤ (k : Int) := by omega
   have g1 : (k : Int) < f.regs.length := by omega
   clear h hd ht hs hreg c9 hfv h0
   go_enter Tryd.func142, Tryd.ntmps142
   go_wp2_with fail
   refine (HT.out _ (by repeat (first | (with_reducible first | exact bR _ _ | exact bH ‹_› | refine bD ?_ | refine bN ?_ _ | refine bS ?_ ?_ _ | refine bA ?_ ?_ _ | refine bT hb3 ?_ ?_ | refine bT hb5 ?_ ?_ | refine bT hb4 ?_ ?_) | omega | (simp; omega) | simp))).mono ?_
   rintro e w1 ⟨rfl, nq, rfl⟩
   go_wp2
   go_end0
   exact ⟨rfl, HH.out _ (by repeat (first | (with_reducible first | exact bR _ _ | exact bH ‹_› | refine bD ?_ | refine bN ?_ _ | refine bS ?_ ?_ _ | refine bA ?_ ?_ _ | refine bT hb3 ?_ ?_ | refine bT hb5 ?_ ?_ | refine bT hb4 ?_ ?_) | omega | (simp; omega) | simp))⟩
  ·have HH : Hid (putS s dst n = s) := by
    show _ = _
    unfold putS
    rw [hs]
    simp only [setL, if_neg h0]
    cases s
    simp only at hs
    rw [hs]
   clear hd hs ht
   have H := hidI h
   clear h
   go_enter Tryd.func142, Tryd.ntmps142
   go_wp2
   go_end0
   exact ⟨rfl, by rw [HH.out]; exact H.out⟩
end Go.Proofs.YtdjamkinijhjoaaDoor
namespace Go.Proofs.YtdjamkinijhjoaaDoor
open Go.RowKit

theorem infoInt9 : (Tryd.prog.info? 3).map (fun i => (i.zero, i.size, i.bytes)) = some (some (.int .i64 0), 1, 8) := by kernel_rfl
theorem underInts9 : Tryd.prog.underlying 46 = some (.slice 3) := by kernel_rfl
theorem infoFrame : (Tryd.prog.info? 181).map (fun i => (i.zero, i.size, i.bytes)) = some (some (.agg #[.int .i64 0, .int .i64 0, .int .i64 0, .slice none 0 0, .int .i64 0]), 5, 56) := by kernel_rfl
theorem underFrames : Tryd.prog.underlying 146 = some (.slice 181) := by kernel_rfl
theorem sizeInt9 : (Tryd.prog.info? 3).map (·.size) = some 1 := by kernel_rfl

def Walks (L : Lies) (u : UniL) (w : World) (s : StL) : Prop := ∃ ro R iv ov fv, WalkR L u w ro R iv ov fv s
theorem WalkR.walks {L : Lies} {u : UniL} {w : World} {ro R : Nat → Nat} {iv ov fv : Value} {s : StL} (h : WalkR L u w ro R iv ov fv s) : Walks L u w s := ⟨ro, R, iv, ov, fv, h⟩
theorem grown_trans {w w1 w2 : World} {row : Option Nat} (h : Below w.heap.size w w1) (hg : w1.grownBy w2 row) : w.grownBy w2 row :=
 ⟨hg.os.trans h.os, hg.tape.trans h.tape, hg.output.trans h.output, Nat.le_trans h.size hg.size, fun k hk hne => (hg.block k (by have := h.size; omega) hne).trans (h.block k hk)⟩
theorem made_list (n : Nat) : madeCells #[Value.int .i64 0] n = (List.replicate n (Value.int .i64 0)).toArray := by
 apply Array.ext
 ·simp [madeCells]
 ·intro i h1 h2
  simp [madeCells, Nat.mod_one]
theorem splice_regs (args : List Int) (n : Nat) (h : args.length ≤ n) (j : Nat) (hj : j < n) : (splice (List.replicate n (Value.int .i64 0)) 0 (args.map (.int .i64)))[j]? = some (.int .i64 ((args ++ List.replicate (n - args.length) 0).getD j 0)) := by
 unfold splice
 rw [List.take_zero, List.nil_append, List.drop_replicate, List.length_map]
 have e : List.replicate (n - (0 + args.length)) (Value.int .i64 0) = (List.replicate (n - args.length) (0 : Int)).map (Value.int .i64) := by simp
 rw [e, ← List.map_append, List.getElem?_map]
 have hl : j < (args ++ List.replicate (n - args.length) (0 : Int)).length := by simp; omega
 rw [List.getElem?_eq_getElem hl]
 simp only [List.getD, List.getElem?_eq_getElem hl, Option.map_some, Option.getD_some]
theorem cell_ne {w : World} {b o b' o' : Nat} {v : Value} (h : ¬ b' = b) : (w.setCell ⟨b, o, none⟩ v).cell? ⟨b', o', none⟩ = w.cell? ⟨b', o', none⟩ :=
 World.cell?_of_block (Below.heap_setCell _ _ _ _ h)
theorem splice_row {w : World} {g n : Nat} {t : TypeId} {args : List Int} (h : args.length ≤ n) (hg : w.heap[g]? = some (.cells (splice (List.replicate n (Value.int .i64 0)) 0 (args.map (.int .i64))).toArray t (0, 0))) :
  w.rowIs g t n (fun j => .int .i64 ((args ++ List.replicate (n - args.length) 0).getD j 0)) :=
 ⟨_, hg, by rw [List.size_toArray, length_splice _ _ _ (by simp; omega), List.length_replicate], fun j hj => by rw [List.getElem?_toArray]; exact splice_regs args n h j hj⟩

set_option maxRecDepth 100000 in
set_option maxHeartbeats 1000000 in
theorem wenter_any {L : Lies} {u : UniL} {w : World} {s : StL} (hu : UOk u) (h : Walks L u w s) (hok : StOk u s) (hst : s.steps ≤ 1000000) (hF : SliceAt L.w0 4 (FunR L.w0) L.fp u.funcs) {k : Nat} (hk : k < u.funcs.length) (dst : Int) (args : List Int) (ap : Option Addr) (ac : Nat) (hal : args.length ≤ (fnU u k).regs.toNat) (hA : SliceAt w 1 IntR ap args) :
  Calls Tryd.prog 81 #[.pointer (some ⟨L.W, 0, none⟩), .int .i64 k, .int .i64 dst, .slice ap args.length ac] w fun e w' => e = .returned (.tuple #[]) ∧ Walks L u w' (enterS u s k dst args) := by
 obtain ⟨ro, R, iv, ov, fv, h⟩ := h
 obtain ⟨i1, k1, k2, k3, k4⟩ := info_parts infoInt9
 obtain ⟨i2, l1, l2, l3, l4⟩ := info_parts infoFrame
 obtain ⟨_, _, hb1, hb2, hr0, hr1, _⟩ := hu.fn hk
 obtain ⟨n, hn⟩ := Int.eq_ofNat_of_zero_le hr0
 have hnn : (fnU u k).regs.toNat = n := by omega
 have hmk := run_make_row 46 3 i1 (.int .i64 0) underInts9 k1 k2 k3 rfl .i64 .i64 n (by rw [k4]; omega) (by omega)
 obtain ⟨fb, fo, bp, bc, hfp, e1, e2, e3, e4, _⟩ := funGet hF h.below hk
 rw [← fnU_get hk, hn] at e3
 have hbk := blk h.head
 have c1 : w.cell? ⟨L.W, 1, none⟩ = some (.slice L.fp u.funcs.length L.fc) := by rw [hbk.1]; rfl
 rw [hfp] at c1
 have zW := lt_of_cell c1
 have zf := lt_of_cell e3
 have g0 : (0 : Int) ≤ (k : Int) := by omega
 have g1 : (k : Int) < u.funcs.length := by omega
 have H := hidI h
 have HF := hidI hF
 have hfew := hok.few
 have zH := h.below.size
 have hcn := hok.cnt k 0
 clear h e1 e2 e4 hbk hF
 go_enter Tryd.func81, Tryd.ntmps81
 go_wp2_with (with_reducible refine wpList_copy_splice rfl (.tmp 19) (.tmp 20) 46 46 rfl 3 underInts9 sizeInt9 (some ⟨w.heap.size, 0, none⟩) ap n n args.length ac rfl rfl w.heap.size 0 (List.replicate n (.int .i64 0)) 3 ?_ (args.map (.int .i64)) ?_ ?_ ?_ ?_ w.heap.size w ?_ ?_ ?_)
 ·rw [← made_list]; exact heap_here w _
 ·rw [List.length_map]; show _ = min _ _; omega
 ·intro hp
  try refine ⟨rfl, ?_⟩
  rcases hA with rfl | ⟨b, o, rfl, hA⟩
  ·simp at hp
  ·refine ⟨_, rfl, fun j v hv => ?_⟩
   obtain ⟨hj, rfl⟩ := List.getElem?_eq_some_iff.1 hv
   obtain ⟨cs, _, hc, rfl, _⟩ := hA j hj
   have h0 := hc 0 (by omega)
   simp only [Nat.mul_one, Nat.add_zero, List.getElem?_cons_zero] at h0
   have e : (⟨b, o, none⟩ : Addr).add j = ⟨b, o + j, none⟩ := by unfold Addr.add; split <;> simp_all
   rw [e]
   exact (World.cell?_of_block (Below.heap_alloc w _ _ (lt_of_cell h0))).trans h0
 ·rw [List.length_map, List.length_replicate]; omega
 ·intro v hv
  obtain ⟨x, _, rfl⟩ := List.mem_map.1 hv
  simp [Value.oneCell']
 ·repeat (first | (with_reducible first | exact bR _ _ | exact bH ‹_› | refine bD ?_ | refine bN ?_ _ | refine bS ?_ ?_ _ | refine bA ?_ ?_ _ | refine bT hb3 ?_ ?_ | refine bT hb5 ?_ ?_ | refine bT hb4 ?_ ?_) | omega | (simp; omega) | simp)
 ·exact Nat.le_refl _
 intro w1 hg1 hb1
 have HB1 := hidI hb1
 have HR1 : Hid (w1.rowIs w.heap.size 3 n (fun j => .int .i64 ((args ++ List.replicate (n - args.length) 0).getD j 0))) := splice_row (by omega) hg1.out
 have H1 := hidI (H.out.mono hb1)
 have hbk1 := blk H1.out.head
 have c9 : w1.cell? ⟨L.W, 9, none⟩ = some fv := by rw [hbk1.1]; rfl
 have zW1 := lt_of_cell c9
 have z1 := HR1.out.lt
 clear hg1 hb1 hbk1
 go_wp2_with (at_builtin; refine wpList_append_own_at _ rfl _ _ 146 rfl L.w0.heap.size 181 i2 _ 5 56 underFrames l1 l2 l3 l4 rfl (by decide) _ _ _ rfl (H1.out.frmO.alloc _) ⟨w1.heap.size, 0, none⟩ 1 1 [.int .i64 k, .int .i64 0, .int .i64 0, .slice (some ⟨w.heap.size, 0, none⟩) n n, .int .i64 dst] rfl rfl (fun j u h => by rw [addr_add]; exact cell_new_at _ _ _ _ (by simpa using h)) (by simp [Value.oneCell']) ?_ ?_ ?_ ?_)
 ·unfold maxLen; omega
 ·omega
 ·have := HB1.out.size; simp; omega
 intro v' w2 hown' hgrow _ hv'
 obtain ⟨g', cap', rfl⟩ := ownsRow_succ' hown'
 have hfne : ∀ b, fv.ownBlock = some b → b < w.heap.size ∧ b ≠ L.W := fun b e => ⟨(H.out.frmO.lt b e).2, fun e2 => by subst e2; have := H.out.roF _ e; have := H.out.roW; omega⟩
 have hg2 : w.grownBy w2 fv.ownBlock := grown_trans (HB1.out.trans (((Below.refl _ _).alloc (Nat.le_refl _) _).mono HB1.out.size)) hgrow
 have hlen : (args ++ List.replicate (n - args.length) 0).length = n := enter_regs _ _ (by omega)
 have hr2 : w2.rowIs w.heap.size 3 n (fun j => .int .i64 ((args ++ List.replicate (n - args.length) 0).getD j 0)) :=
  (HR1.out.alloc _).of_block (hgrow.block _ (by simp; omega) (fun e => by have := (hfne _ e.symm).1; omega))
 have hh2 : w2.heap[L.W]? = some (.cells (headC L u iv ov fv s) 148 (0, 0)) := (hg2.block _ zW (fun e => (hfne _ e.symm).2 rfl)).trans H.out.head
 have HPs : Hid (WalkR L u (w2.setCell ⟨L.W, 9, none⟩ (.slice (some ⟨g', 0, none⟩) (s.frames.length + 1) cap')) _ _ iv ov (.slice (some ⟨g', 0, none⟩) (s.frames.length + 1) cap') { s with frames := ⟨k, 0, 0, args ++ List.replicate (n - args.length) 0, dst⟩ :: s.frames }) :=
  H.out.push (f := ⟨k, 0, 0, args ++ List.replicate (n - args.length) 0, dst⟩) hg2 (by show World.rowIs _ _ _ (args ++ List.replicate (n - args.length) 0).length _; rw [hlen]; exact hr2) (Nat.le_refl _) (by show World.ownsRow _ _ _ _ _ _ (_ ++ [_, _, _, .slice _ (args ++ List.replicate (n - args.length) 0).length (args ++ List.replicate (n - args.length) 0).length, _]); rw [hlen]; exact hown')
   (hv'.imp id fun e g e2 => by rw [e] at e2; cases e2; exact ⟨by omega, by omega⟩) (grown_set _ _ _) (by rw [heap_set hh2]; rfl)
 have hnT : L.CT ≠ L.W := fun e => by have := HPs.out.roT k hk; have := HPs.out.roW; rw [e] at *; omega
 have hnC : L.C k ≠ L.W := fun e => by have := HPs.out.roC k hk; have := HPs.out.roW; rw [e] at *; omega
 have d9 : w2.cell? ⟨L.W, 9, none⟩ = some fv := by rw [(blk hh2).1]; rfl
 have d10 : w2.cell? ⟨L.W, 10, none⟩ = some (.slice (some ⟨L.CT, 0, none⟩) u.funcs.length L.cc) := by rw [(blk hh2).1]; rfl
 have dT : w2.cell? ⟨L.CT, k, none⟩ = some (.slice (some ⟨L.C k, 0, none⟩) (fnU u k).blocks.length (fnU u k).blocks.length) := (cell_ne hnT).symm.trans (HPs.out.cntT k hk)
 have dC : w2.cell? ⟨L.C k, 0, none⟩ = some (.int .i64 (s.cnt k 0)) := (cell_ne hnC).symm.trans ((HPs.out.cntR k hk).cell (by omega))
 have q9 := (blk hh2).2 9
 have qC : (w2.setCell ⟨L.W, 9, none⟩ (.slice (some ⟨g', 0, none⟩) (s.frames.length + 1) cap')).frozen? ⟨L.C k, 0, none⟩ = false := (HPs.out.cntR k hk).frozen 0
 have zW2 := lt_of_cell d9
 have zT2 := lt_of_cell dT
 have zC2 := lt_of_cell dC
 have hnT2 := hnT.symm
 have hnC2 := hnC.symm
 have g2 : (0 : Int) < (fnU u k).blocks.length := by omega
 have HN := hidI hnn
 clear hown' hgrow hv' hfne hg2 hlen hr2 hh2 hn hnn
 go_wp2_with fail
 go_end0
 refine ⟨rfl, ?_⟩
 have hS := (HPs.out.setCnt hk (b := 0) (s.cnt k 0 + 1) rfl).walks
 rw [← HN.out] at hS
 exact hS
end Go.Proofs.YtdjamkinijhjoaaDoor
