/-
  The contract of the checker's phi: what is wrong with a phi of a block.
  The contract of code.first: the first fault of three questions.
-/
import Derived.WalkKit
import Derived.WalkSpells
import Derived.WalkLawsBesides
import Derived.Test.YtdjamkinijhjoaaDoorChkD
namespace Go.Proofs.YtdjamkinijhjoaaDoor
open Go.RowKit

def firstE : List Int → Int
 | [] => 0
 | x :: l => if x = 0 then firstE l else x

theorem firstE_drop {α : Type} (g : α → Int) (l : List α) (k : Nat) (h : k < l.length) : firstE ((l.drop k).map g) = if g l[k] = 0 then firstE ((l.drop (k + 1)).map g) else g l[k] := by
 rw [List.drop_eq_getElem_cons h]; rfl

def valsE (regs : Int) (l : List (Bool × Int)) : Int := firstE (l.map fun v => valE regs v.1 v.2)

def phiE (regs : Int) (block cnt : Nat) (dst : Int) (l : List (Bool × Int)) : Int :=
 if block = 0 then 5
 else if dstE regs dst ≠ 0 then dstE regs dst
 else if l.length ≠ cnt then 9
 else valsE regs l

theorem phi_0 (g1 f1 b1 a1 p : Option Addr) (g2 g3 f2 f3 b2 b3 a2 a3 l c cnt : Nat) (nm : ByteArray) (params regs dst : Int) (L : List (Bool × Int)) (w : World) :
  Calls Tryd.prog 71 #[.agg #[.slice g1 g2 g3, .slice f1 f2 f3, .string nm, .int .i64 params, .int .i64 regs, .slice b1 b2 b3, .slice a1 a2 a3], .int .i64 0, .agg #[.int .i64 dst, .slice p l c]] w fun e w' => e = .returned (.int .i64 (phiE regs 0 cnt dst L)) ∧ Below w.heap.size w w' := by
 go_enter Tryd.func71, Tryd.ntmps71
 go_wp2
 go_ret
 refine ⟨rfl, ?_⟩
 repeat (first | (with_reducible first | exact bR _ _ | exact bH ‹_› | refine bD ?_ | refine bN ?_ _ | refine bS ?_ ?_ _ | refine bA ?_ ?_ _ | refine bT hb3 ?_ ?_ | refine bT hb5 ?_ ?_ | refine bT hb4 ?_ ?_) | omega | (simp; omega) | simp)

set_option maxRecDepth 100000 in
set_option maxHeartbeats 1000000 in
theorem phi_dst (g1 f1 b1 a1 p : Option Addr) (g2 g3 f2 f3 b2 b3 a2 a3 l c block cnt : Nat) (nm : ByteArray) (params regs dst : Int) (L : List (Bool × Int)) (w : World)
  (h1 : 0 ≤ regs) (h2 : regs ≤ 9223372036854775807) (h0 : block ≠ 0) (hd : dstE regs dst ≠ 0) :
  Calls Tryd.prog 71 #[.agg #[.slice g1 g2 g3, .slice f1 f2 f3, .string nm, .int .i64 params, .int .i64 regs, .slice b1 b2 b3, .slice a1 a2 a3], .int .i64 block, .agg #[.int .i64 dst, .slice p l c]] w fun e w' => e = .returned (.int .i64 (phiE regs block cnt dst L)) ∧ Below w.heap.size w w' := by
 have HV : Hid (phiE regs block cnt dst L = dstE regs dst) := by show _ = _; unfold phiE; rw [if_neg h0, if_pos hd]
 have hb0 : ((block : Int) == 0) = false := by simp [h0]
 have hdb : (dstE regs dst == 0) = false := by simp [hd]
 go_enter Tryd.func71, Tryd.ntmps71
 go_wp2_with (go_at_call 115; refine (dst_any _ _ _ _ _ _ _ _ _ _ _ _ _ _ _ _ _ h1 h2).mono ?_; rintro e w3 ⟨rfl, hb3⟩)
 go_ret
 refine ⟨by rw [HV.out]; rfl, ?_⟩
 repeat (first | (with_reducible first | exact bR _ _ | exact bH ‹_› | refine bD ?_ | refine bN ?_ _ | refine bS ?_ ?_ _ | refine bA ?_ ?_ _ | refine bT hb3 ?_ ?_ | refine bT hb5 ?_ ?_ | refine bT hb4 ?_ ?_) | omega | (simp; omega) | simp)

set_option maxRecDepth 100000 in
set_option maxHeartbeats 1000000 in
theorem phi_len (g1 f1 b1 p : Option Addr) (ab ao : Nat) (g2 g3 f2 f3 b2 b3 a2 a3 l c block cnt qc : Nat) (q : Option Addr) (nm : ByteArray) (params regs dst : Int) (L : List (Bool × Int)) (w : World)
  (h1 : 0 ≤ regs) (h2 : regs ≤ 9223372036854775807) (h0 : block ≠ 0) (hd : dstE regs dst = 0) (hl : l = L.length) (hne : l ≠ cnt) (hbl : block < a2) (_ha2 : a2 ≤ 9223372036854775807) (_hl1 : l ≤ 9223372036854775807) (_hl2 : cnt ≤ 9223372036854775807) (hc : w.cell? ⟨ab, ao + block, none⟩ = some (.slice q cnt qc)) :
  Calls Tryd.prog 71 #[.agg #[.slice g1 g2 g3, .slice f1 f2 f3, .string nm, .int .i64 params, .int .i64 regs, .slice b1 b2 b3, .slice (some ⟨ab, ao, none⟩) a2 a3], .int .i64 block, .agg #[.int .i64 dst, .slice p l c]] w fun e w' => e = .returned (.int .i64 (phiE regs block cnt dst L)) ∧ Below w.heap.size w w' := by
 have HV : Hid (phiE regs block cnt dst L = 9) := by show _ = _; unfold phiE; rw [if_neg h0, if_neg (by simp [hd]), if_pos (by omega)]
 have hb0 : ((block : Int) == 0) = false := by simp [h0]
 have hdb : (dstE regs dst != 0) = false := by simp [hd]
 have hn : ((l : Int) != (cnt : Int)) = true := by simp; omega
 have hsz := lt_of_cell hc
 have hsz1 : ab < w.heap.size + 1 := by omega
 have hsz2 : ab < w.heap.size + 1 + 1 := by omega
 clear hd
 go_enter Tryd.func71, Tryd.ntmps71
 go_wp2_with (go_at_call 115; refine (dst_any _ _ _ _ _ _ _ _ _ _ _ _ _ _ _ _ _ h1 h2).mono ?_; rintro e w3 ⟨rfl, hb3⟩; obtain ⟨hc3, hf3, hz3⟩ := bcell hb3; simp at hz3)
 have hz4 : w.heap.size < w3.heap.size := by omega
 have hz5 : w.heap.size + 1 < w3.heap.size := by omega
 go_quiet (fail)
 go_wp2
 go_ret
 refine ⟨by rw [HV.out]; rfl, ?_⟩
 repeat (first | (with_reducible first | exact bR _ _ | exact bH ‹_› | refine bD ?_ | refine bN ?_ _ | refine bS ?_ ?_ _ | refine bA ?_ ?_ _ | refine bT hb3 ?_ ?_ | refine bT hb5 ?_ ?_ | refine bT hb4 ?_ ?_) | omega | (simp; omega) | simp)

set_option maxRecDepth 100000 in
set_option maxHeartbeats 1000000 in
theorem phi_vals (g1 f1 b1 : Option Addr) (pb po ab ao : Nat) (g2 g3 f2 f3 b2 b3 a2 a3 c block cnt qc : Nat) (q : Option Addr) (nm : ByteArray) (params regs dst : Int) (L : List (Bool × Int)) (w : World)
  (h1 : 0 ≤ regs) (h2 : regs ≤ 9223372036854775807) (h0 : block ≠ 0) (hd : dstE regs dst = 0) (hne : L.length = cnt) (hbl : block < a2) (_ha2 : a2 ≤ 9223372036854775807) (hl2 : cnt ≤ 9223372036854775807) (hc : w.cell? ⟨ab, ao + block, none⟩ = some (.slice q cnt qc))
  (hL : ∀ i (h : i < L.length), w.cell? ⟨pb, po + i * 2, none⟩ = some (.bool L[i].1) ∧ w.cell? ⟨pb, po + i * 2 + 1, none⟩ = some (.int .i64 L[i].2)) (hpb : L ≠ [] → pb < w.heap.size) :
  Calls Tryd.prog 71 #[.agg #[.slice g1 g2 g3, .slice f1 f2 f3, .string nm, .int .i64 params, .int .i64 regs, .slice b1 b2 b3, .slice (some ⟨ab, ao, none⟩) a2 a3], .int .i64 block, .agg #[.int .i64 dst, .slice (some ⟨pb, po, none⟩) cnt c]] w fun e w' => e = .returned (.int .i64 (phiE regs block cnt dst L)) ∧ Below w.heap.size w w' := by
 have HV : Hid (phiE regs block cnt dst L = firstE (L.map fun v => valE regs v.1 v.2)) := by show _ = _; unfold phiE; rw [if_neg h0, if_neg (by simp [hd]), if_neg (by omega)]; rfl
 have hb0 : ((block : Int) == 0) = false := by simp [h0]
 have hdb : (dstE regs dst != 0) = false := by simp [hd]
 have hsz := lt_of_cell hc
 have hsz1 : ab < w.heap.size + 1 := by omega
 have hsz2 : ab < w.heap.size + 1 + 1 := by omega
 have HL : Hid (∀ i (h : i < L.length), w.cell? ⟨pb, po + i * 2, none⟩ = some (.bool L[i].1) ∧ w.cell? ⟨pb, po + i * 2 + 1, none⟩ = some (.int .i64 L[i].2)) := hL
 have HN : Hid (L.length = cnt) := hne
 have HP : Hid (L ≠ [] → pb < w.heap.size) := hpb
 clear hd hL hne hpb
 go_enter Tryd.func71, Tryd.ntmps71
 go_wp2_with (go_at_call 115; refine (dst_any _ _ _ _ _ _ _ _ _ _ _ _ _ _ _ _ _ h1 h2).mono ?_; rintro e w3 ⟨rfl, hb3⟩; obtain ⟨hc3, hf3, hz3⟩ := bcell hb3; simp at hz3)
 have hz4 : w.heap.size < w3.heap.size := by omega
 have hz5 : w.heap.size + 1 < w3.heap.size := by omega
 have HB0 : Hid (Below w.heap.size w w3) := (((Below.refl _ _).alloc (Nat.le_refl _) _).alloc (by simp) _).trans (hb3.mono (by simp; omega))
 go_quiet (fail)
 go_wp2
 go_loopw [33] (fun i wr => ∃ k : Nat, k ≤ cnt ∧ i = .int .i64 k ∧ firstE ((L.drop k).map fun v => valE regs v.1 v.2) = firstE (L.map fun v => valE regs v.1 v.2) ∧ Below w3.heap.size w3 wr) (fun i _ => cnt - (intOf i).toNat)
 case atStart => exact ⟨0, by omega, rfl, rfl, by repeat (first | (with_reducible first | exact bR _ _ | exact bH ‹_› | refine bD ?_ | refine bN ?_ _ | refine bS ?_ ?_ _ | refine bA ?_ ?_ _ | refine bT hb3 ?_ ?_ | refine bT hb5 ?_ ?_ | refine bT hb4 ?_ ?_) | omega | (simp; omega) | simp)⟩
 case round =>
  obtain ⟨k, hk, rfl, hV, hB⟩ := hrel
  have HF : Hid (firstE ((L.drop k).map fun v => valE regs v.1 v.2) = firstE (L.map fun v => valE regs v.1 v.2)) := hV
  obtain ⟨hcr, hfr, hzr⟩ := bcell hB
  have HB : Hid (Below w3.heap.size w3 wr) := hB
  clear hV hB
  by_cases hlt : k < cnt
  ·have hlt2 : k < L.length := by have := HN.out; omega
   have hpb : pb < w.heap.size := HP.out (by rintro rfl; simp at hlt2)
   have HBw : Hid (Below w.heap.size w wr) := HB0.out.trans (HB.out.mono HB0.out.size)
   have d0 := (HBw.out.cell (p := ⟨pb, po + k * 2, none⟩) hpb).trans (HL.out k hlt2).1
   have d1 := (HBw.out.cell (p := ⟨pb, po + k * 2 + 1, none⟩) hpb).trans (HL.out k hlt2).2
   have d2 : pb < wr.heap.size := by have := HBw.out.size; omega
   have HD : Hid (firstE ((L.drop k).map fun v => valE regs v.1 v.2) = if valE regs L[k].1 L[k].2 = 0 then firstE ((L.drop (k + 1)).map fun v => valE regs v.1 v.2) else valE regs L[k].1 L[k].2) := firstE_drop (fun v : Bool × Int => valE regs v.1 v.2) L k hlt2
   rw [HF.out] at HD
   generalize L[k].1 = r at d0 HD
   generalize L[k].2 = n at d1 HD
   clear HF hlt2 hpb
   have hz6 : w.heap.size < wr.heap.size := by omega
   have hz7 : w.heap.size + 1 < wr.heap.size := by omega
   by_cases hv : valE regs r n = 0
   ·have hvb : (valE regs r n != 0) = false := by simp [hv]
    have HD2 := HD.out
    rw [if_pos hv] at HD2
    replace HD : Hid (firstE (L.map fun v => valE regs v.1 v.2) = firstE ((L.drop (k + 1)).map fun v => valE regs v.1 v.2)) := HD2
    clear HD2 hv
    go_wp2_with (go_at_call 114; refine (val_any _ _ _ _ _ _ _ _ _ _ _ _ _ _ _ _ _ _ h1 h2).mono ?_; rintro e w4 ⟨rfl, hb4⟩)
    refine ⟨⟨k + 1, by omega, by go_num, HD.out.symm, ?_⟩, by simp [intOf]; omega⟩
    exact HB.out.trans (Below.trans (by repeat (first | (with_reducible first | exact bR _ _ | exact bH ‹_› | refine bD ?_ | refine bN ?_ _ | refine bS ?_ ?_ _ | refine bA ?_ ?_ _ | refine bT hb3 ?_ ?_ | refine bT hb5 ?_ ?_ | refine bT hb4 ?_ ?_) | omega | (simp; omega) | simp)) (hb4.mono (by have := HB.out.size; simp; omega)))
   ·have hvb : (valE regs r n != 0) = true := by simp [hv]
    have HD2 := HD.out
    rw [if_neg hv] at HD2
    replace HD : Hid (firstE (L.map fun v => valE regs v.1 v.2) = valE regs r n) := HD2
    clear HD2 hv
    go_wp2_with (go_at_call 114; refine (val_any _ _ _ _ _ _ _ _ _ _ _ _ _ _ _ _ _ _ h1 h2).mono ?_; rintro e w4 ⟨rfl, hb4⟩)
    go_ret
    refine ⟨by rw [HV.out, HD.out]; rfl, ?_⟩
    exact HBw.out.trans (Below.trans (by repeat (first | (with_reducible first | exact bR _ _ | exact bH ‹_› | refine bD ?_ | refine bN ?_ _ | refine bS ?_ ?_ _ | refine bA ?_ ?_ _ | refine bT hb3 ?_ ?_ | refine bT hb5 ?_ ?_ | refine bT hb4 ?_ ?_) | omega | (simp; omega) | simp)) (hb4.mono (by have := HBw.out.size; simp; omega)))
  ·have HZ : Hid (firstE (L.map fun v => valE regs v.1 v.2) = 0) := by
    have hk2 : k = L.length := by have := HN.out; omega
    show _ = _
    rw [← HF.out, hk2]; simp [firstE]
   have HBw : Hid (Below w.heap.size w wr) := HB0.out.trans (HB.out.mono HB0.out.size)
   clear HF
   go_wp2
   go_ret
   refine ⟨by rw [HV.out, HZ.out]; rfl, ?_⟩
   exact HBw.out

set_option maxRecDepth 100000 in
set_option maxHeartbeats 1000000 in
theorem phi_nil (g1 f1 b1 p : Option Addr) (ab ao : Nat) (g2 g3 f2 f3 b2 b3 a2 a3 c block qc : Nat) (q : Option Addr) (nm : ByteArray) (params regs dst : Int) (w : World)
  (h1 : 0 ≤ regs) (h2 : regs ≤ 9223372036854775807) (h0 : block ≠ 0) (hd : dstE regs dst = 0) (hbl : block < a2) (_ha2 : a2 ≤ 9223372036854775807) (hc : w.cell? ⟨ab, ao + block, none⟩ = some (.slice q 0 qc)) :
  Calls Tryd.prog 71 #[.agg #[.slice g1 g2 g3, .slice f1 f2 f3, .string nm, .int .i64 params, .int .i64 regs, .slice b1 b2 b3, .slice (some ⟨ab, ao, none⟩) a2 a3], .int .i64 block, .agg #[.int .i64 dst, .slice p 0 c]] w fun e w' => e = .returned (.int .i64 (phiE regs block 0 dst [])) ∧ Below w.heap.size w w' := by
 have HV : Hid (phiE regs block 0 dst [] = 0) := by show _ = _; unfold phiE; rw [if_neg h0, if_neg (by simp [hd]), if_neg (by simp)]; rfl
 have hb0 : ((block : Int) == 0) = false := by simp [h0]
 have hdb : (dstE regs dst != 0) = false := by simp [hd]
 have hsz := lt_of_cell hc
 have hsz1 : ab < w.heap.size + 1 := by omega
 have hsz2 : ab < w.heap.size + 1 + 1 := by omega
 clear hd
 go_enter Tryd.func71, Tryd.ntmps71
 go_wp2_with (go_at_call 115; refine (dst_any _ _ _ _ _ _ _ _ _ _ _ _ _ _ _ _ _ h1 h2).mono ?_; rintro e w3 ⟨rfl, hb3⟩; obtain ⟨hc3, hf3, hz3⟩ := bcell hb3; simp at hz3)
 have hz4 : w.heap.size < w3.heap.size := by omega
 have hz5 : w.heap.size + 1 < w3.heap.size := by omega
 have HB0 : Hid (Below w.heap.size w w3) := (((Below.refl _ _).alloc (Nat.le_refl _) _).alloc (by simp) _).trans (hb3.mono (by simp; omega))
 go_quiet (fail)
 go_wp2
 go_loop [33] (fun i => i = .int .i64 0) (fun _ => 0)
 case atStart => rfl
 case round =>
  subst hrel
  go_wp2
  go_ret
  refine ⟨by rw [HV.out]; rfl, ?_⟩
  exact below_drewN HB0.out _

theorem phi_any (g1 f1 b1 p : Option Addr) (ab ao : Nat) (g2 g3 f2 f3 b2 b3 a2 a3 c block cnt qc : Nat) (q : Option Addr) (nm : ByteArray) (params regs dst : Int) (L : List (Bool × Int)) (w : World)
  (h1 : 0 ≤ regs) (h2 : regs ≤ 9223372036854775807) (hbl : block < a2) (ha2 : a2 ≤ 9223372036854775807) (hl1 : L.length ≤ 9223372036854775807) (hl2 : cnt ≤ 9223372036854775807) (hc : w.cell? ⟨ab, ao + block, none⟩ = some (.slice q cnt qc)) (hL : SliceAt w 2 ValR p L) :
  Calls Tryd.prog 71 #[.agg #[.slice g1 g2 g3, .slice f1 f2 f3, .string nm, .int .i64 params, .int .i64 regs, .slice b1 b2 b3, .slice (some ⟨ab, ao, none⟩) a2 a3], .int .i64 block, .agg #[.int .i64 dst, .slice p L.length c]] w fun e w' => e = .returned (.int .i64 (phiE regs block cnt dst L)) ∧ Below w.heap.size w w' := by
 by_cases h0 : block = 0
 ·subst h0; exact phi_0 _ _ _ _ _ _ _ _ _ _ _ _ _ _ _ _ _ _ _ _ _ _
 by_cases hd : dstE regs dst = 0
 ·by_cases hne : L.length = cnt
  ·rcases hL with rfl | ⟨b, o, rfl, h⟩
   ·subst hne; exact phi_nil _ _ _ _ _ _ _ _ _ _ _ _ _ _ _ _ _ _ _ _ _ _ _ h1 h2 h0 hd hbl ha2 hc
   ·rw [hne]
    have hx : ∀ i (h : i < L.length), w.cell? ⟨b, o + i * 2, none⟩ = some (.bool L[i].1) ∧ w.cell? ⟨b, o + i * 2 + 1, none⟩ = some (.int .i64 L[i].2) := fun i hi => by
     obtain ⟨cs, _, hc, ⟨rfl, _⟩⟩ := h i hi
     exact ⟨hc 0 (by omega), hc 1 (by omega)⟩
    refine phi_vals _ _ _ _ _ _ _ _ _ _ _ _ _ _ _ _ _ _ _ _ _ _ _ _ _ _ h1 h2 h0 hd hne hbl ha2 hl2 hc hx fun hn => ?_
    have hp : 0 < L.length := List.length_pos_iff.2 hn
    exact lt_of_cell (hx 0 hp).1
  ·exact phi_len _ _ _ _ _ _ _ _ _ _ _ _ _ _ _ _ _ _ _ _ _ _ _ _ _ _ h1 h2 h0 hd rfl hne hbl ha2 hl1 hl2 hc
 ·exact phi_dst _ _ _ _ _ _ _ _ _ _ _ _ _ _ _ _ _ _ _ _ _ _ _ h1 h2 h0 hd
end Go.Proofs.YtdjamkinijhjoaaDoor
namespace Go.Proofs.YtdjamkinijhjoaaDoor
open Go.RowKit

def Asks (F : FuncId) (caps : Array Value) (w : World) (e : Int) : Prop :=
 ∀ w1 : World, Below w.heap.size w w1 → Calls Tryd.prog F caps w1 fun x w2 => x = .returned (.int .i64 e) ∧ Below w1.heap.size w1 w2

set_option maxHeartbeats 1000000 in
theorem first_any (sb so sc : Nat) (B X C : Addr) (e1 e2 e3 : Int) (w : World)
  (h0 : w.cell? ⟨sb, so, none⟩ = some (.func (.func 117) #[] #[.pointer (some B), .pointer (some X)]))
  (h1 : w.cell? ⟨sb, so + 1, none⟩ = some (.func (.func 118) #[] #[.pointer (some B), .pointer (some X)]))
  (h2 : w.cell? ⟨sb, so + 2, none⟩ = some (.func (.func 119) #[] #[.pointer (some C), .pointer (some X), .pointer (some B)]))
  (a1 : Asks 117 #[.pointer (some B), .pointer (some X)] w e1) (a2 : Asks 118 #[.pointer (some B), .pointer (some X)] w e2) (a3 : Asks 119 #[.pointer (some C), .pointer (some X), .pointer (some B)] w e3) :
  Calls Tryd.prog 116 #[.slice (some ⟨sb, so, none⟩) 3 sc] w fun e w' => e = .returned (.int .i64 (firstE [e1, e2, e3])) ∧ Below w.heap.size w w' := by
 have A1 : Hid (Asks 117 #[.pointer (some B), .pointer (some X)] w e1) := a1
 have A2 : Hid (Asks 118 #[.pointer (some B), .pointer (some X)] w e2) := a2
 have A3 : Hid (Asks 119 #[.pointer (some C), .pointer (some X), .pointer (some B)] w e3) := a3
 have hsb := lt_of_cell h0
 clear a1 a2 a3
 go_enter Tryd.func116, Tryd.ntmps116
 go_wp2
 go_loopw [8] (fun i wr => ∃ k : Nat, i = .int .i64 k ∧ (k = 0 ∨ (k = 1 ∧ e1 = 0) ∨ (k = 2 ∧ e1 = 0 ∧ e2 = 0) ∨ (k = 3 ∧ e1 = 0 ∧ e2 = 0 ∧ e3 = 0)) ∧ Below w.heap.size w wr) (fun i _ => 3 - (intOf i).toNat)
 case atStart => exact ⟨0, rfl, .inl rfl, Below.refl _ _⟩
 case round =>
  obtain ⟨k, rfl, hk, hB⟩ := hrel
  have HB : Hid (Below w.heap.size w wr) := hB
  have g0 := (hB.cell (p := ⟨sb, so, none⟩) hsb).trans h0
  have g1 := (hB.cell (p := ⟨sb, so + 1, none⟩) hsb).trans h1
  have g2 := (hB.cell (p := ⟨sb, so + 2, none⟩) hsb).trans h2
  clear hB
  rcases hk with rfl | ⟨rfl, z1⟩ | ⟨rfl, z1, z2⟩ | ⟨rfl, z1, z2, z3⟩
  ·by_cases hz : e1 = 0
   ·have hzb : (e1 != 0) = false := by simp [hz]
    have HZ : Hid (e1 = 0) := hz
    clear hz
    go_wp2_with fail
    refine (A1.out _ HB.out).mono ?_
    rintro e w2 ⟨rfl, hb2⟩
    have HB2 : Hid (Below w.heap.size w w2) := HB.out.trans (hb2.mono HB.out.size)
    clear hb2
    go_wp2
    exact ⟨⟨1, by go_num, .inr (.inl ⟨rfl, HZ.out⟩), HB2.out⟩, by simp [intOf]⟩
   ·have hzb : (e1 != 0) = true := by simp [hz]
    have HV : Hid (firstE [e1, e2, e3] = e1) := by show _ = _; simp [firstE, hz]
    clear hz
    go_wp2_with fail
    refine (A1.out _ HB.out).mono ?_
    rintro e w2 ⟨rfl, hb2⟩
    have HB2 : Hid (Below w.heap.size w w2) := HB.out.trans (hb2.mono HB.out.size)
    clear hb2
    go_wp2
    go_ret
    exact ⟨by rw [HV.out]; rfl, HB2.out⟩
  ·by_cases hz : e2 = 0
   ·have hzb : (e2 != 0) = false := by simp [hz]
    have HZ : Hid (e1 = 0 ∧ e2 = 0) := ⟨z1, hz⟩
    clear hz z1
    go_wp2_with fail
    refine (A2.out _ HB.out).mono ?_
    rintro e w2 ⟨rfl, hb2⟩
    have HB2 : Hid (Below w.heap.size w w2) := HB.out.trans (hb2.mono HB.out.size)
    clear hb2
    go_wp2
    exact ⟨⟨2, by go_num, .inr (.inr (.inl ⟨rfl, HZ.out⟩)), HB2.out⟩, by simp [intOf]⟩
   ·have hzb : (e2 != 0) = true := by simp [hz]
    have HV : Hid (firstE [e1, e2, e3] = e2) := by show _ = _; simp [firstE, hz, z1]
    clear hz z1
    go_wp2_with fail
    refine (A2.out _ HB.out).mono ?_
    rintro e w2 ⟨rfl, hb2⟩
    have HB2 : Hid (Below w.heap.size w w2) := HB.out.trans (hb2.mono HB.out.size)
    clear hb2
    go_wp2
    go_ret
    exact ⟨by rw [HV.out]; rfl, HB2.out⟩
  ·by_cases hz : e3 = 0
   ·have hzb : (e3 != 0) = false := by simp [hz]
    have HZ : Hid (e1 = 0 ∧ e2 = 0 ∧ e3 = 0) := ⟨z1, z2, hz⟩
    clear hz z1 z2
    go_wp2_with fail
    refine (A3.out _ HB.out).mono ?_
    rintro e w2 ⟨rfl, hb2⟩
    have HB2 : Hid (Below w.heap.size w w2) := HB.out.trans (hb2.mono HB.out.size)
    clear hb2
    go_wp2
    exact ⟨⟨3, by go_num, .inr (.inr (.inr ⟨rfl, HZ.out⟩)), HB2.out⟩, by simp [intOf]⟩
   ·have hzb : (e3 != 0) = true := by simp [hz]
    have HV : Hid (firstE [e1, e2, e3] = e3) := by show _ = _; simp [firstE, hz, z1, z2]
    clear hz z1 z2
    go_wp2_with fail
    refine (A3.out _ HB.out).mono ?_
    rintro e w2 ⟨rfl, hb2⟩
    have HB2 : Hid (Below w.heap.size w w2) := HB.out.trans (hb2.mono HB.out.size)
    clear hb2
    go_wp2
    go_ret
    exact ⟨by rw [HV.out]; rfl, HB2.out⟩
  ·have HV : Hid (firstE [e1, e2, e3] = 0) := by show _ = _; simp [firstE, z1, z2, z3]
   clear z1 z2 z3
   go_wp2
   go_ret
   exact ⟨by rw [HV.out]; rfl, HB.out⟩
end Go.Proofs.YtdjamkinijhjoaaDoor
