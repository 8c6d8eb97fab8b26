/-
  The contracts of the walker's end, ins and step.
-/
import Derived.Test.YtdjamkinijhjoaaDoorRunC
import Derived.Deep.RegionWith
import Derived.WalkKit
import Derived.WalkSpells
import Derived.WalkLawsBesides
namespace Go.Proofs.YtdjamkinijhjoaaDoor
open Go.RowKit

theorem Walks.mono {L : Lies} {u : UniL} {w w' : World} {s : StL} (h : Walks L u w s) (hb : Below w.heap.size w w') : Walks L u w' s := by
  obtain ⟨ro, R, iv, ov, fv, h⟩ := h
  exact (h.mono hb).walks
theorem Walks.val {L : Lies} {u : UniL} {w : World} {s : StL} (h : Walks L u w s) (hne : s.frames ≠ []) (r : Bool) (n : Int) (hv : ValOk (topR s).length r n) :
    Calls Tryd.prog 141 #[.pointer (some ⟨L.W, 0, none⟩), .agg #[.bool r, .int .i64 n]] w fun e w' => e = .returned (.int .i64 (valL (topR s) r n)) ∧ Below w.heap.size w w' := by
  obtain ⟨ro, R, iv, ov, fv, h⟩ := h
  exact wval_any h hne r n hv
theorem Walks.set {L : Lies} {u : UniL} {w : World} {s : StL} (h : Walks L u w s) (hne : s.frames ≠ []) (dst n : Int) (hd : dst < (topR s).length ∨ dst < 0) :
    Calls Tryd.prog 142 #[.pointer (some ⟨L.W, 0, none⟩), .int .i64 dst, .int .i64 n] w fun e w' => e = .returned (.tuple #[]) ∧ Walks L u w' (putS s dst n) := by
  obtain ⟨ro, R, iv, ov, fv, h⟩ := h
  exact (wset_any h hne dst n hd).mono fun e w' g => ⟨g.1, g.2.walks⟩
theorem Walks.stop {L : Lies} {u : UniL} {w : World} {s : StL} (h : Walks L u w s) (n : Int) :
    Calls Tryd.prog 83 #[.pointer (some ⟨L.W, 0, none⟩), .int .i64 n] w fun e w' => e = .returned (.bool false) ∧ Walks L u w' { s with state := n } := by
  obtain ⟨ro, R, iv, ov, fv, h⟩ := h
  exact (wstop_any h n).mono fun e w' g => ⟨g.1, g.2.walks⟩

set_option maxRecDepth 100000 in
set_option maxHeartbeats 2000000 in
/-- an end that goes on at a block -/
theorem wend_jump {L : Lies} {u : UniL} {w : World} {s : StL} (hu : UOk u) (h : Walks L u w s) (hok : StOk u s) (hst : s.steps ≤ 1000000) (hF : SliceAt L.w0 4 (FunR L.w0) L.fp u.funcs) {f : FrL} {rest : List FrL} (hs : s.frames = f :: rest)
    {kind onn : Int} {onr : Bool} {to : List Int} (he : (topB u f).fin = ⟨kind, onr, onn, to⟩) (hk : kind = 2) (tp : Option Addr) (tc : Nat) (hT : SliceAt w 1 IntR tp to) :
    Calls Tryd.prog 125 #[.pointer (some ⟨L.W, 0, none⟩), .agg #[.int .i64 kind, .bool onr, .int .i64 onn, .slice tp to.length tc]] w fun e w' => e = .returned (.bool (endS u s ⟨kind, onr, onn, to⟩).2) ∧ Walks L u w' (endS u s ⟨kind, onr, onn, to⟩).1 := by
  have hf := hok.frs f (by rw [hs]; exact List.mem_cons_self)
  have hE := (hu.fin hf).1
  rw [he] at hE
  subst hk
  have hlen := hE.len
  simp only at hlen
  have hl : to.length = 1 := by omega
  obtain ⟨t, rfl⟩ : ∃ t, to = [t] := List.length_eq_one_iff.1 hl
  have hS : endS u s ⟨2, onr, onn, [t]⟩ = (jumpS u s t.toNat, true) := by unfold endS; simp
  have HJ := hidI (fun W (hb : Below w.heap.size w W) => wjump_any hu (h.mono hb) hok hst hF hs (t := t) (by rw [he]; simp))
  have HS := hidI hS
  obtain ⟨b, o, hp, c0, _⟩ := intGet hT (Below.refl _ _) (i := 0) (by simp)
  subst hp
  have z0 := lt_of_cell c0
  simp only [Nat.add_zero, List.getElem_cons_zero] at c0
  clear hS hT hlen hl hE h hok hF
  go_enter Tryd.func125, Tryd.ntmps125
  go_wp2_with fail
  refine (HJ.out _ (by repeat (first | with_reducible exact Below.refl _ _ | with_reducible exact HB3.out | with_reducible refine Below.drew ?_ | with_reducible refine below_drewN ?_ _ | with_reducible refine Below.setCell ?_ ?_ _ | with_reducible refine Below.alloc ?_ ?_ _ | with_reducible exact HB2.out | with_reducible exact HB1.out | with_reducible refine Below.trans ?_ (Below.mono hb3 ?_) | with_reducible refine Below.trans ?_ (Below.mono hb5 ?_) | with_reducible refine Below.trans ?_ (Below.mono hb4 ?_) | omega | (simp; omega) | simp))).mono ?_
  rintro e w1 ⟨rfl, h1⟩
  have H1 := hidI h1
  clear h1
  go_wp2_with fail
  go_ret
  exact ⟨by rw [HS.out]; rfl, by rw [HS.out]; exact H1.out⟩

set_option maxRecDepth 100000 in
set_option maxHeartbeats 2000000 in
/-- an end that asks a number -/
theorem wend_if {L : Lies} {u : UniL} {w : World} {s : StL} (hu : UOk u) (h : Walks L u w s) (hok : StOk u s) (hst : s.steps ≤ 1000000) (hF : SliceAt L.w0 4 (FunR L.w0) L.fp u.funcs) {f : FrL} {rest : List FrL} (hs : s.frames = f :: rest)
    {kind onn : Int} {onr : Bool} {to : List Int} (he : (topB u f).fin = ⟨kind, onr, onn, to⟩) (hk : kind = 3) (tp : Option Addr) (tc : Nat) (hT : SliceAt w 1 IntR tp to) :
    Calls Tryd.prog 125 #[.pointer (some ⟨L.W, 0, none⟩), .agg #[.int .i64 kind, .bool onr, .int .i64 onn, .slice tp to.length tc]] w fun e w' => e = .returned (.bool (endS u s ⟨kind, onr, onn, to⟩).2) ∧ Walks L u w' (endS u s ⟨kind, onr, onn, to⟩).1 := by
  have hf := hok.frs f (by rw [hs]; exact List.mem_cons_self)
  have hE := (hu.fin hf).1
  rw [he] at hE
  subst hk
  have hlen := hE.len
  have hon := hE.on
  simp only at hlen hon
  have hl : to.length = 2 := by omega
  obtain ⟨t0, t1, rfl⟩ := len_2 hl
  have htop : topR s = f.regs := by unfold topR; rw [hs]
  have hrl : ((topR s).length : Int) = (fnU u f.fn).regs := by
    have := hf.regs
    have := (hu.fn hf.fn).2.2.2.2.1
    rw [htop]
    omega
  have hS : endS u s ⟨3, onr, onn, [t0, t1]⟩ = (jumpS u s (if valL (topR s) onr onn = 0 then t1 else t0).toNat, true) := by unfold endS; simp
  have HJ0 := hidI (fun W (hb : Below w.heap.size w W) => wjump_any hu (h.mono hb) hok hst hF hs (t := t0) (by rw [he]; simp))
  have HJ1 := hidI (fun W (hb : Below w.heap.size w W) => wjump_any hu (h.mono hb) hok hst hF hs (t := t1) (by rw [he]; simp))
  have HV := hidI (fun W (hb : Below w.heap.size w W) => (h.mono hb).val (by rw [hs]; simp) onr onn (by rw [hrl]; exact hon))
  obtain ⟨b, o, hp, c0, _⟩ := intGet hT (Below.refl _ _) (i := 0) (by simp)
  subst hp
  obtain ⟨b', o', hp, c1, _⟩ := intGet hT (Below.refl _ _) (i := 1) (by simp)
  cases hp
  have z0 := lt_of_cell c0
  simp only [Nat.add_zero, List.getElem_cons_zero] at c0
  simp only [List.getElem_cons_succ, List.getElem_cons_zero] at c1
  generalize valL (topR s) onr onn = x at *
  by_cases hx : x = 0
  · rw [if_pos hx] at hS
    have hq : (x != 0) = false := by simp [hx]
    have HS := hidI hS
    clear hS hT hlen hl hE h hok hF hx hon htop hrl
    go_enter Tryd.func125, Tryd.ntmps125
    go_wp2_with fail
    refine (HV.out _ (by repeat (first | with_reducible exact Below.refl _ _ | with_reducible exact HB3.out | with_reducible refine Below.drew ?_ | with_reducible refine below_drewN ?_ _ | with_reducible refine Below.setCell ?_ ?_ _ | with_reducible refine Below.alloc ?_ ?_ _ | with_reducible exact HB2.out | with_reducible exact HB1.out | with_reducible refine Below.trans ?_ (Below.mono hb3 ?_) | with_reducible refine Below.trans ?_ (Below.mono hb5 ?_) | with_reducible refine Below.trans ?_ (Below.mono hb4 ?_) | omega | (simp; omega) | simp))).mono ?_
    rintro e w1 ⟨rfl, hb1⟩
    have HB1 : Hid (Below w.heap.size w w1) := Below.trans (by repeat (first | with_reducible exact Below.refl _ _ | with_reducible exact HB3.out | with_reducible refine Below.drew ?_ | with_reducible refine below_drewN ?_ _ | with_reducible refine Below.setCell ?_ ?_ _ | with_reducible refine Below.alloc ?_ ?_ _ | with_reducible exact HB2.out | with_reducible exact HB1.out | with_reducible refine Below.trans ?_ (Below.mono hb3 ?_) | with_reducible refine Below.trans ?_ (Below.mono hb5 ?_) | with_reducible refine Below.trans ?_ (Below.mono hb4 ?_) | omega | (simp; omega) | simp)) (hb1.mono (by simp))
    obtain ⟨hc1, hf1, hz1⟩ := bcell hb1
    simp at hz1
    clear hb1
    go_wp2_with fail
    refine (HJ1.out _ (by repeat (first | with_reducible exact Below.refl _ _ | with_reducible exact HB3.out | with_reducible refine Below.drew ?_ | with_reducible refine below_drewN ?_ _ | with_reducible refine Below.setCell ?_ ?_ _ | with_reducible refine Below.alloc ?_ ?_ _ | with_reducible exact HB2.out | with_reducible exact HB1.out | with_reducible refine Below.trans ?_ (Below.mono hb3 ?_) | with_reducible refine Below.trans ?_ (Below.mono hb5 ?_) | with_reducible refine Below.trans ?_ (Below.mono hb4 ?_) | omega | (simp; omega) | simp))).mono ?_
    rintro e w2 ⟨rfl, h1⟩
    have H1 := hidI h1
    clear h1
    go_wp2_with fail
    go_ret
    exact ⟨by rw [HS.out]; rfl, by rw [HS.out]; exact H1.out⟩
  · rw [if_neg hx] at hS
    have hq : (x != 0) = true := by simp [hx]
    have HS := hidI hS
    clear hS hT hlen hl hE h hok hF hx hon htop hrl
    go_enter Tryd.func125, Tryd.ntmps125
    go_wp2_with fail
    refine (HV.out _ (by repeat (first | with_reducible exact Below.refl _ _ | with_reducible exact HB3.out | with_reducible refine Below.drew ?_ | with_reducible refine below_drewN ?_ _ | with_reducible refine Below.setCell ?_ ?_ _ | with_reducible refine Below.alloc ?_ ?_ _ | with_reducible exact HB2.out | with_reducible exact HB1.out | with_reducible refine Below.trans ?_ (Below.mono hb3 ?_) | with_reducible refine Below.trans ?_ (Below.mono hb5 ?_) | with_reducible refine Below.trans ?_ (Below.mono hb4 ?_) | omega | (simp; omega) | simp))).mono ?_
    rintro e w1 ⟨rfl, hb1⟩
    have HB1 : Hid (Below w.heap.size w w1) := Below.trans (by repeat (first | with_reducible exact Below.refl _ _ | with_reducible exact HB3.out | with_reducible refine Below.drew ?_ | with_reducible refine below_drewN ?_ _ | with_reducible refine Below.setCell ?_ ?_ _ | with_reducible refine Below.alloc ?_ ?_ _ | with_reducible exact HB2.out | with_reducible exact HB1.out | with_reducible refine Below.trans ?_ (Below.mono hb3 ?_) | with_reducible refine Below.trans ?_ (Below.mono hb5 ?_) | with_reducible refine Below.trans ?_ (Below.mono hb4 ?_) | omega | (simp; omega) | simp)) (hb1.mono (by simp))
    obtain ⟨hc1, hf1, hz1⟩ := bcell hb1
    simp at hz1
    clear hb1
    go_wp2_with fail
    refine (HJ0.out _ (by repeat (first | with_reducible exact Below.refl _ _ | with_reducible exact HB3.out | with_reducible refine Below.drew ?_ | with_reducible refine below_drewN ?_ _ | with_reducible refine Below.setCell ?_ ?_ _ | with_reducible refine Below.alloc ?_ ?_ _ | with_reducible exact HB2.out | with_reducible exact HB1.out | with_reducible refine Below.trans ?_ (Below.mono hb3 ?_) | with_reducible refine Below.trans ?_ (Below.mono hb5 ?_) | with_reducible refine Below.trans ?_ (Below.mono hb4 ?_) | omega | (simp; omega) | simp))).mono ?_
    rintro e w2 ⟨rfl, h1⟩
    have H1 := hidI h1
    clear h1
    go_wp2_with fail
    go_ret
    exact ⟨by rw [HS.out]; rfl, by rw [HS.out]; exact H1.out⟩

set_option maxRecDepth 100000 in
set_option maxHeartbeats 2000000 in
/-- an end that hands back -/
theorem wend_ret {L : Lies} {u : UniL} {w : World} {s : StL} (hu : UOk u) (h : Walks L u w s) (hok : StOk u s) {f : FrL} {rest : List FrL} (hs : s.frames = f :: rest)
    {kind onn : Int} {onr : Bool} {to : List Int} (he : (topB u f).fin = ⟨kind, onr, onn, to⟩) (hk : kind = 1) (tp : Option Addr) (tc : Nat) :
    Calls Tryd.prog 125 #[.pointer (some ⟨L.W, 0, none⟩), .agg #[.int .i64 kind, .bool onr, .int .i64 onn, .slice tp to.length tc]] w fun e w' => e = .returned (.bool (endS u s ⟨kind, onr, onn, to⟩).2) ∧ Walks L u w' (endS u s ⟨kind, onr, onn, to⟩).1 := by
  have hf := hok.frs f (by rw [hs]; exact List.mem_cons_self)
  have hE := (hu.fin hf).1
  rw [he] at hE
  subst hk
  have hon := hE.on
  simp only at hon
  have htop : topR s = f.regs := by unfold topR; rw [hs]
  have hrl : ((topR s).length : Int) = (fnU u f.fn).regs := by
    have := hf.regs
    have := (hu.fn hf.fn).2.2.2.2.1
    rw [htop]
    omega
  have HV := hidI (fun W (hb : Below w.heap.size w W) => (h.mono hb).val (by rw [hs]; simp) onr onn (by rw [hrl]; exact hon))
  obtain ⟨ro, R, iv, ov, fv, h⟩ := h
  obtain ⟨F, cap, hfv, hlen, hcap, hl, c9, _, _, _, _, c4⟩ := h.frm hs
  have HT := hidI (fun W (hb : Below w.heap.size w W) => top_any (h.mono hb) hs hfv)
  rw [htop] at HV
  generalize hx : valL f.regs onr onn = x at *
  have zF := lt_of_cell c4
  have zW := lt_of_cell c9
  have f9 := (blk h.head).2 9
  have c6 : w.cell? ⟨L.W, 6, none⟩ = some (.int .i64 s.value) := by rw [(blk h.head).1]; rfl
  have f6 := (blk h.head).2 6
  have HP : Hid (∀ X, Below w.heap.size w X → WalkR L u (X.setCell ⟨L.W, 9, none⟩ (.slice (some ⟨F, 0, none⟩) rest.length cap)) ro R iv ov (.slice (some ⟨F, 0, none⟩) rest.length cap) { s with frames := rest }) := fun X hX => by
    have hm := h.mono hX
    exact hm.pop hs hfv (grown_set X ⟨L.W, 9, none⟩ _) (by rw [heap_set hm.head]; rfl)
  have HP6 : Hid (∀ X, Below w.heap.size w X → WalkR L u ((X.setCell ⟨L.W, 9, none⟩ (.slice (some ⟨F, 0, none⟩) rest.length cap)).setCell ⟨L.W, 6, none⟩ (.int .i64 x)) ro R iv ov (.slice (some ⟨F, 0, none⟩) rest.length cap) { s with frames := rest, value := x }) := fun X hX => by
    have hm := HP.out X hX
    exact hm.setW (s' := { s with frames := rest, value := x }) (grown_set _ ⟨L.W, 6, none⟩ _) (by rw [heap_set hm.head]; rfl) rfl rfl rfl rfl h.inp
  have hdst := hok.dst
  have hlz : s.frames.length ≤ 30 := hok.few
  have hSx : valL f.regs onr onn = x := hx
  by_cases hr : rest = []
  · have hq : ((rest.length : Int) == 0) = true := by simp [hr]
    have HS : Hid (endS u s ⟨1, onr, onn, to⟩ = ({ s with frames := rest, value := x, state := 0 }, false)) := by
      show _ = _
      unfold endS
      rw [hs, hr]
      simp [hSx]
    clear h hE hon htop hrl hfv hok hdst hSx hx hr hs
    go_enter Tryd.func125, Tryd.ntmps125
    go_wp2_with fail
    go_region_with
      (first
        | (go_at_call 141; refine (HV.out _ (by repeat (first | with_reducible exact Below.refl _ _ | with_reducible exact HB3.out | with_reducible refine Below.drew ?_ | with_reducible refine below_drewN ?_ _ | with_reducible refine Below.setCell ?_ ?_ _ | with_reducible refine Below.alloc ?_ ?_ _ | with_reducible exact HB2.out | with_reducible exact HB1.out | with_reducible refine Below.trans ?_ (Below.mono hb3 ?_) | with_reducible refine Below.trans ?_ (Below.mono hb5 ?_) | with_reducible refine Below.trans ?_ (Below.mono hb4 ?_) | omega | (simp; omega) | simp))).mono ?_; rintro e w1 ⟨rfl, hb1⟩; have HB1 : Hid (Below w.heap.size w w1) := Below.trans (by repeat (first | with_reducible exact Below.refl _ _ | with_reducible exact HB3.out | with_reducible refine Below.drew ?_ | with_reducible refine below_drewN ?_ _ | with_reducible refine Below.setCell ?_ ?_ _ | with_reducible refine Below.alloc ?_ ?_ _ | with_reducible exact HB2.out | with_reducible exact HB1.out | with_reducible refine Below.trans ?_ (Below.mono hb3 ?_) | with_reducible refine Below.trans ?_ (Below.mono hb5 ?_) | with_reducible refine Below.trans ?_ (Below.mono hb4 ?_) | omega | (simp; omega) | simp)) (hb1.mono (by simp)); have hz1 := HB1.out.size; obtain ⟨hc1, hf1, _⟩ := bcell HB1.out; clear hb1)
        | (go_at_call 124; refine (HT.out _ (by repeat (first | with_reducible exact Below.refl _ _ | with_reducible exact HB3.out | with_reducible refine Below.drew ?_ | with_reducible refine below_drewN ?_ _ | with_reducible refine Below.setCell ?_ ?_ _ | with_reducible refine Below.alloc ?_ ?_ _ | with_reducible exact HB2.out | with_reducible exact HB1.out | with_reducible refine Below.trans ?_ (Below.mono hb3 ?_) | with_reducible refine Below.trans ?_ (Below.mono hb5 ?_) | with_reducible refine Below.trans ?_ (Below.mono hb4 ?_) | omega | (simp; omega) | simp))).mono ?_; rintro e w2 ⟨rfl, nq, rfl⟩))
    all_goals go_wp2_with fail
    all_goals
      have q0 : (0 : Int) ≤ (rest.length : Int) := by omega
      have q1 : (rest.length : Int) ≤ (cap : Int) := by omega
      have qw : IntKind.i64.wrap (rest.length : Int) = (rest.length : Int) := IntWalk.i64_in _ (by omega)
      go_region
    all_goals
      clear qw
      go_wp2_with fail
      refine (wstop_any (HP6.out _ (by repeat (first | with_reducible exact Below.refl _ _ | with_reducible exact HB3.out | with_reducible refine Below.drew ?_ | with_reducible refine below_drewN ?_ _ | with_reducible refine Below.setCell ?_ ?_ _ | with_reducible refine Below.alloc ?_ ?_ _ | with_reducible exact HB2.out | with_reducible exact HB1.out | with_reducible refine Below.trans ?_ (Below.mono hb3 ?_) | with_reducible refine Below.trans ?_ (Below.mono hb5 ?_) | with_reducible refine Below.trans ?_ (Below.mono hb4 ?_) | omega | (simp; omega) | simp))) 0).mono ?_
      rintro e w3 ⟨rfl, h3⟩
      have H3 := hidI h3
      clear h3
      go_wp2_with fail
      go_ret
      exact ⟨by rw [HS.out]; rfl, by rw [HS.out]; exact H3.out.walks⟩
  · obtain ⟨g, r2, hr2⟩ : ∃ g r2, rest = g :: r2 := by cases rest with | nil => exact absurd rfl hr | cons g r2 => exact ⟨g, r2, rfl⟩
    have hq : ((rest.length : Int) == 0) = false := by rw [hr2]; simp; omega
    have HS : Hid (endS u s ⟨1, onr, onn, to⟩ = (putS { s with frames := rest } f.dst x, true)) := by
      show _ = _
      unfold endS
      rw [hs, hr2]
      simp [hSx]
    have hd : f.dst < (topR { s with frames := rest }).length ∨ f.dst < 0 := by
      rw [hs, hr2] at hdst
      have := hdst.1
      unfold topR
      rw [hr2]
      simp only
      omega
    have HD := hidI hd
    have HNE := hidI hr
    clear h hE hon htop hrl hfv hok hdst hSx hx hr hs hr2 hd
    go_enter Tryd.func125, Tryd.ntmps125
    go_wp2_with fail
    go_region_with
      (first
        | (go_at_call 141; refine (HV.out _ (by repeat (first | with_reducible exact Below.refl _ _ | with_reducible exact HB3.out | with_reducible refine Below.drew ?_ | with_reducible refine below_drewN ?_ _ | with_reducible refine Below.setCell ?_ ?_ _ | with_reducible refine Below.alloc ?_ ?_ _ | with_reducible exact HB2.out | with_reducible exact HB1.out | with_reducible refine Below.trans ?_ (Below.mono hb3 ?_) | with_reducible refine Below.trans ?_ (Below.mono hb5 ?_) | with_reducible refine Below.trans ?_ (Below.mono hb4 ?_) | omega | (simp; omega) | simp))).mono ?_; rintro e w1 ⟨rfl, hb1⟩; have HB1 : Hid (Below w.heap.size w w1) := Below.trans (by repeat (first | with_reducible exact Below.refl _ _ | with_reducible exact HB3.out | with_reducible refine Below.drew ?_ | with_reducible refine below_drewN ?_ _ | with_reducible refine Below.setCell ?_ ?_ _ | with_reducible refine Below.alloc ?_ ?_ _ | with_reducible exact HB2.out | with_reducible exact HB1.out | with_reducible refine Below.trans ?_ (Below.mono hb3 ?_) | with_reducible refine Below.trans ?_ (Below.mono hb5 ?_) | with_reducible refine Below.trans ?_ (Below.mono hb4 ?_) | omega | (simp; omega) | simp)) (hb1.mono (by simp)); have hz1 := HB1.out.size; obtain ⟨hc1, hf1, _⟩ := bcell HB1.out; clear hb1)
        | (go_at_call 124; refine (HT.out _ (by repeat (first | with_reducible exact Below.refl _ _ | with_reducible exact HB3.out | with_reducible refine Below.drew ?_ | with_reducible refine below_drewN ?_ _ | with_reducible refine Below.setCell ?_ ?_ _ | with_reducible refine Below.alloc ?_ ?_ _ | with_reducible exact HB2.out | with_reducible exact HB1.out | with_reducible refine Below.trans ?_ (Below.mono hb3 ?_) | with_reducible refine Below.trans ?_ (Below.mono hb5 ?_) | with_reducible refine Below.trans ?_ (Below.mono hb4 ?_) | omega | (simp; omega) | simp))).mono ?_; rintro e w2 ⟨rfl, nq, rfl⟩))
    all_goals go_wp2_with fail
    all_goals
      have q0 : (0 : Int) ≤ (rest.length : Int) := by omega
      have q1 : (rest.length : Int) ≤ (cap : Int) := by omega
      have qw : IntKind.i64.wrap (rest.length : Int) = (rest.length : Int) := IntWalk.i64_in _ (by omega)
      go_region
    all_goals
      clear qw
      go_wp2_with fail
      refine (wset_any (HP.out _ (by repeat (first | with_reducible exact Below.refl _ _ | with_reducible exact HB3.out | with_reducible refine Below.drew ?_ | with_reducible refine below_drewN ?_ _ | with_reducible refine Below.setCell ?_ ?_ _ | with_reducible refine Below.alloc ?_ ?_ _ | with_reducible exact HB2.out | with_reducible exact HB1.out | with_reducible refine Below.trans ?_ (Below.mono hb3 ?_) | with_reducible refine Below.trans ?_ (Below.mono hb5 ?_) | with_reducible refine Below.trans ?_ (Below.mono hb4 ?_) | omega | (simp; omega) | simp))) HNE.out f.dst x HD.out).mono ?_
      rintro e w3 ⟨rfl, h3⟩
      have H3 := hidI h3
      clear h3
      go_wp2_with fail
      go_ret
      exact ⟨by rw [HS.out]; rfl, by rw [HS.out]; exact H3.out.walks⟩
theorem wend_any {L : Lies} {u : UniL} {w : World} {s : StL} (hu : UOk u) (h : Walks L u w s) (hok : StOk u s) (hst : s.steps ≤ 1000000) (hF : SliceAt L.w0 4 (FunR L.w0) L.fp u.funcs) {f : FrL} {rest : List FrL} (hs : s.frames = f :: rest)
    {kind onn : Int} {onr : Bool} {to : List Int} (he : (topB u f).fin = ⟨kind, onr, onn, to⟩) (tp : Option Addr) (tc : Nat) (hT : SliceAt w 1 IntR tp to) :
    Calls Tryd.prog 125 #[.pointer (some ⟨L.W, 0, none⟩), .agg #[.int .i64 kind, .bool onr, .int .i64 onn, .slice tp to.length tc]] w fun e w' => e = .returned (.bool (endS u s ⟨kind, onr, onn, to⟩).2) ∧ Walks L u w' (endS u s ⟨kind, onr, onn, to⟩).1 := by
  have hE := (hu.fin (hok.frs f (by rw [hs]; exact List.mem_cons_self))).1.kind
  rw [he] at hE
  rcases hE with hk | hk | hk
  · exact wend_ret hu h hok hs he hk tp tc
  · exact wend_jump hu h hok hst hF hs he hk tp tc hT
  · exact wend_if hu h hok hst hF hs he hk tp tc hT
end Go.Proofs.YtdjamkinijhjoaaDoor
