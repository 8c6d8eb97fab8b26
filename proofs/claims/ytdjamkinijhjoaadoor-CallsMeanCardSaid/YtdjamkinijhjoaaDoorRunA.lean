/-
  The contracts of the walker's top, val, set and stop.
-/
import Derived.Test.YtdjamkinijhjoaaDoorRunW
import Derived.BigQuiet
import Derived.Deep.QuietTactic
import Derived.WalkKit
import Derived.WalkSpells
import Derived.WalkLawsBesides
namespace Go.Proofs.YtdjamkinijhjoaaDoor
open Go.RowKit

theorem WalkR.frm {L : Lies} {u : UniL} {w : World} {ro R : Nat → Nat} {iv ov fv : Value} {s : StL} (h : WalkR L u w ro R iv ov fv s) {f : FrL} {rest : List FrL} (hs : s.frames = f :: rest) :
    ∃ F cap, fv = .slice (some ⟨F, 0, none⟩) s.frames.length cap ∧ s.frames.length = rest.length + 1 ∧ rest.length + 1 ≤ cap ∧ rest.length + 1 ≤ 9223372036854775807 ∧
      w.cell? ⟨L.W, 9, none⟩ = some (.slice (some ⟨F, 0, none⟩) (rest.length + 1) cap) ∧
      w.cell? ⟨F, rest.length * 5, none⟩ = some (.int .i64 f.fn) ∧ w.cell? ⟨F, rest.length * 5 + 1, none⟩ = some (.int .i64 f.block) ∧ w.cell? ⟨F, rest.length * 5 + 2, none⟩ = some (.int .i64 f.pos) ∧
      w.cell? ⟨F, rest.length * 5 + 3, none⟩ = some (.slice (some ⟨R rest.length, 0, none⟩) f.regs.length f.regs.length) ∧ w.cell? ⟨F, rest.length * 5 + 4, none⟩ = some (.int .i64 f.dst) := by
  have hlen : s.frames.length = rest.length + 1 := by rw [hs]; rfl
  have ho := h.frmO
  obtain ⟨F, cap, cur, rfl, _, _, h1, h2, _, _⟩ := ho.2.resolve_left (by rintro ⟨_, h⟩; omega)
  have ht := frCells_top R f rest
  have hc : ∀ j, j < s.frames.length * 5 → w.cell? ⟨F, j, none⟩ = (frCells R (f :: rest))[j]? := fun j hj => by rw [← hs]; exact ho.cellAt j hj
  refine ⟨F, cap, rfl, hlen, by omega, by unfold maxLen at h2; omega, ?_, ?_, ?_, ?_, ?_, ?_⟩
  · rw [(blk h.head).1, ← hlen]; rfl
  · rw [hc _ (by omega)]; exact ht.1
  · rw [hc _ (by omega)]; exact ht.2.1
  · rw [hc _ (by omega)]; exact ht.2.2.1
  · rw [hc _ (by omega)]; exact ht.2.2.2.1
  · rw [hc _ (by omega)]; exact ht.2.2.2.2

theorem WalkR.frmZ {L : Lies} {u : UniL} {w : World} {ro R : Nat → Nat} {iv ov fv : Value} {s : StL} (h : WalkR L u w ro R iv ov fv s) {F cap : Nat} (hv : fv = .slice (some ⟨F, 0, none⟩) s.frames.length cap) (j : Nat) : w.frozen? ⟨F, j, none⟩ = false := by
  have ho := h.frmO
  rw [hv] at ho
  exact ho.frozenAt j
set_option maxHeartbeats 1000000 in
theorem top_any {L : Lies} {u : UniL} {w : World} {ro R : Nat → Nat} {iv ov fv : Value} {s : StL} (h : WalkR L u w ro R iv ov fv s) {f : FrL} {rest : List FrL} (hs : s.frames = f :: rest) {F cap : Nat} (hv : fv = .slice (some ⟨F, 0, none⟩) s.frames.length cap) :
    Calls Tryd.prog 124 #[.pointer (some ⟨L.W, 0, none⟩)] w fun e w' => e = .returned (.pointer (some ⟨F, rest.length * 5, none⟩)) ∧ ∃ n, w' = w.drewN n := by
  obtain ⟨F', cap', hv', hlen, hcap, hl, c9, _⟩ := h.frm hs
  rw [hv] at hv'
  cases hv'
  have zW := lt_of_cell c9
  have g0 : (0 : Int) ≤ (rest.length : Int) := by omega
  clear h hs hv
  go_enter Tryd.func124, Tryd.ntmps124
  go_wp2
  go_quiet (fail)
  go_wp2
  go_ret
  exact ⟨by simp, _, rfl⟩

theorem idx_at {xs : List Nat} {x k : Nat} (hk : k < xs.length) (h : xs[k] = x) (hv : ∀ j (h : j < xs.length), j < k → xs[j] ≠ x) : xs.idxOf x = k := by
  have h1 : xs.idxOf x < xs.length := List.idxOf_lt_length_iff.2 (h ▸ List.getElem_mem hk)
  have h2 : xs[xs.idxOf x] = x := List.getElem_idxOf h1
  rcases Nat.lt_trichotomy (xs.idxOf x) k with g | g | g
  · exact absurd h2 (hv _ h1 g)
  · exact g
  · have := List.not_of_lt_findIdx (p := (· == x)) (xs := xs) (i := k) g
    simp [h] at this
set_option maxHeartbeats 400000 in
/-- where a number stands among others -/
theorem indexI_any (xs : List Nat) (b c x : Nat) (w : World) (hn : xs.length ≤ 9223372036854775807) (hc : ∀ i (h : i < xs.length), w.cell? ⟨b, i, none⟩ = some (.int .i64 (xs[i] : Int))) (hx : x ∈ xs) :
    Calls Tryd.prog 155 #[.slice (some ⟨b, 0, none⟩) xs.length c, .int .i64 x] w fun e w' => e = .returned (.int .i64 (xs.idxOf x)) ∧ w' = w := by
  have HX := hidI hx
  have HC := hidI hc
  clear hx hc
  go_enter Tryd.func155, Tryd.ntmps155
  go_wp2
  go_loop [8] (fun i => ∃ k : Nat, k ≤ xs.length ∧ i = .int .i64 k ∧ ∀ j (h : j < xs.length), j < k → xs[j] ≠ x) (fun i => xs.length - (intOf i).toNat)
  case atStart => exact ⟨0, by omega, rfl, fun j _ hj => by omega⟩
  case round =>
    obtain ⟨k, hk, rfl, hV⟩ := hrel
    have HV := hidI hV
    clear hV
    by_cases hlt : k < xs.length
    · have c0 := HC.out k hlt
      have Hlt := hidI hlt
      by_cases he : xs[k] = x
      · have HE := hidI he
        have hq : ((x : Int) == (xs[k] : Int)) = true := by simp [he]
        clear he
        go_wp2
        go_ret
        refine ⟨?_, rfl⟩
        rw [idx_at Hlt.out HE.out HV.out]
        rfl
      · have HE := hidI he
        have hq : ((x : Int) == (xs[k] : Int)) = false := by simp; omega
        clear he
        go_wp2
        refine ⟨⟨k + 1, by omega, by go_num, fun j h1 hj => ?_⟩, by simp [intOf]; omega⟩
        by_cases hj2 : j < k
        · exact HV.out j h1 hj2
        · obtain rfl : j = k := by omega
          exact HE.out
    · exfalso
      obtain ⟨j, hj, e⟩ := List.mem_iff_getElem.1 HX.out
      exact HV.out j hj (by omega) e
theorem WalkR.reg {L : Lies} {u : UniL} {w : World} {ro R : Nat → Nat} {iv ov fv : Value} {s : StL} (h : WalkR L u w ro R iv ov fv s) {f : FrL} {rest : List FrL} (hs : s.frames = f :: rest) : w.rowIs (R rest.length) 3 f.regs.length (fun j => .int .i64 (f.regs.getD j 0)) := by
  have h1 := h.regs
  rw [hs] at h1
  exact h1.1

set_option maxHeartbeats 1000000 in
theorem wval_any {L : Lies} {u : UniL} {w : World} {ro R : Nat → Nat} {iv ov fv : Value} {s : StL} (h : WalkR L u w ro R iv ov fv s) (hne : s.frames ≠ []) (r : Bool) (n : Int) (hv : ValOk (topR s).length r n) :
    Calls Tryd.prog 141 #[.pointer (some ⟨L.W, 0, none⟩), .agg #[.bool r, .int .i64 n]] w fun e w' => e = .returned (.int .i64 (valL (topR s) r n)) ∧ Below w.heap.size w w' := by
  cases hs : s.frames with
  | nil => exact absurd hs hne
  | cons f rest =>
    have ht : topR s = f.regs := by unfold topR; rw [hs]
    rw [ht] at hv ⊢
    cases r with
    | false =>
      have HV : Hid (valL f.regs false n = n) := rfl
      clear h hv ht hs
      go_enter Tryd.func141, Tryd.ntmps141
      go_wp2
      go_ret
      exact ⟨by rw [HV.out]; rfl, by repeat (first | with_reducible exact Below.refl _ _ | with_reducible exact HB3.out | with_reducible refine Below.drew ?_ | with_reducible refine below_drewN ?_ _ | with_reducible refine Below.setCell ?_ ?_ _ | with_reducible refine Below.alloc ?_ ?_ _ | with_reducible exact HB2.out | with_reducible exact HB1.out | with_reducible refine Below.trans ?_ (Below.mono hb3 ?_) | with_reducible refine Below.trans ?_ (Below.mono hb5 ?_) | with_reducible refine Below.trans ?_ (Below.mono hb4 ?_) | omega | (simp; omega) | simp)⟩
    | true =>
      obtain ⟨h0, h1⟩ := hv rfl
      obtain ⟨k, rfl⟩ := Int.eq_ofNat_of_zero_le h0
      have hk : k < f.regs.length := by omega
      obtain ⟨F, cap, hfv, hlen, hcap, hl, c9, _, _, _, c3, _⟩ := h.frm hs
      have hreg := h.reg hs
      have HT := hidI (fun W hb => top_any (h.mono (w' := W) hb) hs hfv)
      have cr := hreg.cell hk
      have zF := lt_of_cell c3
      have zR := hreg.lt
      have HV : Hid (valL f.regs true (k : Int) = f.regs.getD k 0) := by show _ = _; unfold valL; simp
      generalize f.regs.getD k 0 = x at *
      have g0 : (0 : Int) ≤ (k : Int) := by omega
      have g1 : (k : Int) < f.regs.length := by omega
      clear h hv ht hs hreg c9 hfv
      go_enter Tryd.func141, Tryd.ntmps141
      go_wp2
      go_quiet ((go_at_call 124; refine Calls.quiet_of (HT.out _ ?_); repeat (first | with_reducible exact Below.refl _ _ | with_reducible exact HB3.out | with_reducible refine Below.drew ?_ | with_reducible refine below_drewN ?_ _ | with_reducible refine Below.setCell ?_ ?_ _ | with_reducible refine Below.alloc ?_ ?_ _ | with_reducible exact HB2.out | with_reducible exact HB1.out | with_reducible refine Below.trans ?_ (Below.mono hb3 ?_) | with_reducible refine Below.trans ?_ (Below.mono hb5 ?_) | with_reducible refine Below.trans ?_ (Below.mono hb4 ?_) | omega | (simp; omega) | simp)))
      go_wp2
      go_ret
      exact ⟨by rw [HV.out]; rfl, by repeat (first | with_reducible exact Below.refl _ _ | with_reducible exact HB3.out | with_reducible refine Below.drew ?_ | with_reducible refine below_drewN ?_ _ | with_reducible refine Below.setCell ?_ ?_ _ | with_reducible refine Below.alloc ?_ ?_ _ | with_reducible exact HB2.out | with_reducible exact HB1.out | with_reducible refine Below.trans ?_ (Below.mono hb3 ?_) | with_reducible refine Below.trans ?_ (Below.mono hb5 ?_) | with_reducible refine Below.trans ?_ (Below.mono hb4 ?_) | omega | (simp; omega) | simp)⟩

set_option maxHeartbeats 1000000 in
theorem wstop_any {L : Lies} {u : UniL} {w : World} {ro R : Nat → Nat} {iv ov fv : Value} {s : StL} (h : WalkR L u w ro R iv ov fv s) (n : Int) :
    Calls Tryd.prog 83 #[.pointer (some ⟨L.W, 0, none⟩), .int .i64 n] w fun e w' => e = .returned (.bool false) ∧ WalkR L u w' ro R iv ov fv { s with state := n } := by
  have hb := blk h.head
  have c5 : w.cell? ⟨L.W, 5, none⟩ = some (.int .i64 s.state) := by rw [hb.1]; rfl
  have f5 := hb.2 5
  have zW := lt_of_cell c5
  have HH : Hid (WalkR L u (w.setCell ⟨L.W, 5, none⟩ (.int .i64 n)) ro R iv ov fv { s with state := n }) :=
    h.setW (s' := { s with state := n }) (grown_set w ⟨L.W, 5, none⟩ _) (by rw [heap_set h.head]; rfl) rfl rfl rfl rfl h.inp
  clear h hb
  go_enter Tryd.func83, Tryd.ntmps83
  go_wp2
  go_ret
  exact ⟨rfl, HH.out⟩

set_option maxHeartbeats 1000000 in
theorem wset_any {L : Lies} {u : UniL} {w : World} {ro R : Nat → Nat} {iv ov fv : Value} {s : StL} (h : WalkR L u w ro R iv ov fv s) (hne : s.frames ≠ []) (dst n : Int) (hd : dst < (topR s).length ∨ dst < 0) :
    Calls Tryd.prog 142 #[.pointer (some ⟨L.W, 0, none⟩), .int .i64 dst, .int .i64 n] w fun e w' => e = .returned (.tuple #[]) ∧ WalkR L u w' ro R iv ov fv (putS s dst n) := by
  cases hs : s.frames with
  | nil => exact absurd hs hne
  | cons f rest =>
    have ht : topR s = f.regs := by unfold topR; rw [hs]
    rw [ht] at hd
    by_cases h0 : 0 ≤ dst
    · obtain ⟨k, rfl⟩ := Int.eq_ofNat_of_zero_le h0
      have hk : k < f.regs.length := by omega
      obtain ⟨F, cap, hfv, hlen, hcap, hl, c9, _, _, _, c3, _⟩ := h.frm hs
      have hreg := h.reg hs
      have HT := hidI (fun W hb => top_any (h.mono (w' := W) hb) hs hfv)
      have cr := hreg.cell hk
      have cf := hreg.frozen k
      have zF := lt_of_cell c3
      have zR := hreg.lt
      have HH : Hid (∀ W, Below w.heap.size w W → WalkR L u (W.setCell ⟨R rest.length, k, none⟩ (.int .i64 n)) ro R iv ov fv (putS s (k : Int) n)) := fun W hb => by
        have h2 := (h.mono hb).setReg hs hk n
        unfold putS
        rw [hs]
        simp only [setL, h0, if_true, Int.toNat_natCast]
        exact h2
      have g0 : (0 : Int) ≤ (k : Int) := by omega
      have g1 : (k : Int) < f.regs.length := by omega
      clear h hd ht hs hreg c9 hfv h0
      go_enter Tryd.func142, Tryd.ntmps142
      go_wp2_with fail
      refine (HT.out _ (by repeat (first | with_reducible exact Below.refl _ _ | with_reducible exact HB3.out | with_reducible refine Below.drew ?_ | with_reducible refine below_drewN ?_ _ | with_reducible refine Below.setCell ?_ ?_ _ | with_reducible refine Below.alloc ?_ ?_ _ | with_reducible exact HB2.out | with_reducible exact HB1.out | with_reducible refine Below.trans ?_ (Below.mono hb3 ?_) | with_reducible refine Below.trans ?_ (Below.mono hb5 ?_) | with_reducible refine Below.trans ?_ (Below.mono hb4 ?_) | omega | (simp; omega) | simp))).mono ?_
      rintro e w1 ⟨rfl, nq, rfl⟩
      go_wp2
      go_end0
      exact ⟨rfl, HH.out _ (by repeat (first | with_reducible exact Below.refl _ _ | with_reducible exact HB3.out | with_reducible refine Below.drew ?_ | with_reducible refine below_drewN ?_ _ | with_reducible refine Below.setCell ?_ ?_ _ | with_reducible refine Below.alloc ?_ ?_ _ | with_reducible exact HB2.out | with_reducible exact HB1.out | with_reducible refine Below.trans ?_ (Below.mono hb3 ?_) | with_reducible refine Below.trans ?_ (Below.mono hb5 ?_) | with_reducible refine Below.trans ?_ (Below.mono hb4 ?_) | omega | (simp; omega) | simp))⟩
    · have HH : Hid (putS s dst n = s) := by
        show _ = _
        unfold putS
        rw [hs]
        simp only [setL, if_neg h0]
        cases s
        simp only at hs
        rw [hs]
      clear hd hs ht
      have H := hidI h
      clear h
      go_enter Tryd.func142, Tryd.ntmps142
      go_wp2
      go_end0
      exact ⟨rfl, by rw [HH.out]; exact H.out⟩
end Go.Proofs.YtdjamkinijhjoaaDoor
