/-
  The contracts of what calls.Order asks: is a function ready?
-/
import Derived.Test.YteckkdmgkikeaaaDoorCalW
import Derived.BigQuiet
import Derived.Deep.QuietTactic
import Derived.WalkKit
import Derived.WalkSpells
import Derived.WalkLawsBesides
namespace Go.Proofs.YteckkdmgkikeaaaDoor
open Go.RowKit

/-- who of the numbers is not told yet, and of another ring -/
def lateB (told : Nat → Bool) (r : Nat → Nat) (k : Nat) (x : Int) : Bool := !told x.toNat && r x.toNat != r k

/-- what the closures of calls.Order see -/
structure OrdW (w : World) (n A C R T : Nat) (gp : Option Addr) (gc bt bg br : Nat) (told : Nat → Bool) (r : Nat → Nat) : Prop where
  cT : w.cell? ⟨bt, 0, none⟩ = some (.slice (some ⟨T, 0, none⟩) n n)
  cG : w.cell? ⟨bg, 0, none⟩ = some (.slice gp n gc)
  cR : w.cell? ⟨br, 0, none⟩ = some (.slice (some ⟨R, 0, none⟩) n n)
  rT : w.rowIs T A n (fun j => .bool (told j))
  rR : w.rowIs R C n (fun j => .int .i64 (r j))
theorem OrdW.below {w w' : World} {n A C R T : Nat} {gp : Option Addr} {gc bt bg br : Nat} {told : Nat → Bool} {r : Nat → Nat} (h : OrdW w n A C R T gp gc bt bg br told r) (hb : Below w.heap.size w w') : OrdW w' n A C R T gp gc bt bg br told r :=
  ⟨(hb.cell (p := ⟨bt, 0, none⟩) (lt_of_cell h.cT)).trans h.cT, (hb.cell (p := ⟨bg, 0, none⟩) (lt_of_cell h.cG)).trans h.cG, (hb.cell (p := ⟨br, 0, none⟩) (lt_of_cell h.cR)).trans h.cR, rowIs_below h.rT hb, rowIs_below h.rR hb⟩

set_option maxHeartbeats 1000000 in
theorem late_any {n R T : Nat} {gp : Option Addr} {gc bt bg br bk : Nat} {told : Nat → Bool} {r : Nat → Nat} {k : Nat} {w : World} (_hn : n ≤ 10) (hw : OrdW w n 4 3 R T gp gc bt bg br told r) (_hr : ∀ j, j < n → r j < n) (hk : k < n) (hbk : w.cell? ⟨bk, 0, none⟩ = some (.int .i64 k)) (x : Int) (h0 : 0 ≤ x) (h1 : x < n) :
    Calls Tryd.prog 63 #[.int .i64 x, .pointer (some ⟨bt, 0, none⟩), .pointer (some ⟨br, 0, none⟩), .pointer (some ⟨bk, 0, none⟩)] w fun e w' => e = .returned (.bool (lateB told r k x)) ∧ Below w.heap.size w w' := by
  obtain ⟨y, rfl⟩ := Int.eq_ofNat_of_zero_le h0
  have hy : y < n := by omega
  have cT := hw.cT
  have cR := hw.cR
  have c1 := hw.rT.cell hy
  have c2 := hw.rR.cell hy
  have c3 := hw.rR.cell hk
  have z1 := lt_of_cell cT
  have z2 := lt_of_cell cR
  have z3 := lt_of_cell hbk
  have z4 := hw.rT.lt
  have z5 := hw.rR.lt
  have g1 : (k : Int) < n := by omega
  have g0 : (0 : Int) ≤ (k : Int) := by omega
  have HV : Hid (lateB told r k (y : Int) = (!told y && r y != r k)) := by show _ = _; unfold lateB; simp
  clear hw _hr
  cases hto : told y
  · rw [hto] at c1
    cases he : r y != r k
    · have hq : ((r y : Int) != (r k : Int)) = false := by simp at he ⊢; omega
      have HW : Hid (lateB told r k (y : Int) = false) := by show _ = _; rw [HV.out, hto, he]; rfl
      clear he hto HV
      go_enter Tryd.func63, Tryd.ntmps63
      go_wp2
      go_quiet (fail)
      go_wp2
      go_ret
      exact ⟨by rw [HW.out]; rfl, by repeat (first | with_reducible exact Below.refl _ _ | with_reducible exact HB3.out | with_reducible refine Below.drew ?_ | with_reducible refine below_drewN ?_ _ | with_reducible refine Below.setCell ?_ ?_ _ | with_reducible refine Below.alloc ?_ ?_ _ | with_reducible exact HB2.out | with_reducible exact HB1.out | with_reducible refine Below.trans ?_ (Below.mono hb3 ?_) | with_reducible refine Below.trans ?_ (Below.mono hb5 ?_) | with_reducible refine Below.trans ?_ (Below.mono hb4 ?_) | omega | (simp; omega) | simp)⟩
    · have hq : ((r y : Int) != (r k : Int)) = true := by simp at he ⊢; omega
      have HW : Hid (lateB told r k (y : Int) = true) := by show _ = _; rw [HV.out, hto, he]; rfl
      clear he hto HV
      go_enter Tryd.func63, Tryd.ntmps63
      go_wp2
      go_quiet (fail)
      go_wp2
      go_ret
      exact ⟨by rw [HW.out]; rfl, by repeat (first | with_reducible exact Below.refl _ _ | with_reducible exact HB3.out | with_reducible refine Below.drew ?_ | with_reducible refine below_drewN ?_ _ | with_reducible refine Below.setCell ?_ ?_ _ | with_reducible refine Below.alloc ?_ ?_ _ | with_reducible exact HB2.out | with_reducible exact HB1.out | with_reducible refine Below.trans ?_ (Below.mono hb3 ?_) | with_reducible refine Below.trans ?_ (Below.mono hb5 ?_) | with_reducible refine Below.trans ?_ (Below.mono hb4 ?_) | omega | (simp; omega) | simp)⟩
  · rw [hto] at c1
    have HW : Hid (lateB told r k (y : Int) = false) := by show _ = _; rw [HV.out, hto]; rfl
    clear hto HV
    go_enter Tryd.func63, Tryd.ntmps63
    go_wp2
    go_quiet (fail)
    go_wp2
    go_ret
    exact ⟨by rw [HW.out]; rfl, by repeat (first | with_reducible exact Below.refl _ _ | with_reducible exact HB3.out | with_reducible refine Below.drew ?_ | with_reducible refine below_drewN ?_ _ | with_reducible refine Below.setCell ?_ ?_ _ | with_reducible refine Below.alloc ?_ ?_ _ | with_reducible exact HB2.out | with_reducible exact HB1.out | with_reducible refine Below.trans ?_ (Below.mono hb3 ?_) | with_reducible refine Below.trans ?_ (Below.mono hb5 ?_) | with_reducible refine Below.trans ?_ (Below.mono hb4 ?_) | omega | (simp; omega) | simp)⟩

set_option maxHeartbeats 1000000 in
theorem indexLate_any {n R T : Nat} {gp : Option Addr} {gc bt bg br bk : Nat} {told : Nat → Bool} {r : Nat → Nat} {k : Nat} {w : World} (hn : n ≤ 10) (hw : OrdW w n 4 3 R T gp gc bt bg br told r) (hr : ∀ j, j < n → r j < n) (hk : k < n) (hbk : w.cell? ⟨bk, 0, none⟩ = some (.int .i64 k)) (S : List Int) (p : Option Addr) (c : Nat) (hl : S.length ≤ 9223372036854775807) (hS : SliceAt w 1 IntR p S) (hI : ∀ x ∈ S, 0 ≤ x ∧ x < (n : Int)) :
    Calls Tryd.prog 99 #[.slice p S.length c, .func (.func 63) #[] #[.pointer (some ⟨bt, 0, none⟩), .pointer (some ⟨br, 0, none⟩), .pointer (some ⟨bk, 0, none⟩)]] w fun e w' => (∃ m : Int, e = .returned (.int .i64 m) ∧ Hid (decide (0 ≤ m) = S.any (lateB told r k))) ∧ Below w.heap.size w w' := by
  have HW := hidI hw
  have HR := hidI hr
  have HBk := hidI hbk
  have HS := hidI hS
  have HI := hidI hI
  clear hw hr hbk hS hI
  go_enter Tryd.func99, Tryd.ntmps99
  go_wp2
  go_loopw [8] (fun i wr => ∃ m : Nat, m ≤ S.length ∧ i = .int .i64 m ∧ (∀ j (h : j < S.length), j < m → lateB told r k S[j] = false) ∧ Below w.heap.size w wr) (fun i _ => S.length - (intOf i).toNat)
  case atStart => exact ⟨0, by omega, rfl, fun j _ h => by omega, Below.refl _ _⟩
  case round =>
    obtain ⟨m, hm, rfl, hV, hb⟩ := hrel
    have HV := hidI hV
    have HB := hidI hb
    clear hV hb
    by_cases hlt : m < S.length
    · obtain ⟨b, o, hp, e0, _⟩ := intGet HS.out HB.out hlt
      subst hp
      obtain ⟨hx0, hx1⟩ := HI.out _ (List.getElem_mem hlt)
      have hla := late_any hn (HW.out.below HB.out) HR.out hk ((HB.out.cell (p := ⟨bk, 0, none⟩) (lt_of_cell HBk.out)).trans HBk.out) S[m] hx0 hx1
      have HLT := hidI hlt
      have HE : Hid (∀ z, lateB told r k S[m] = z → lateB told r k S[m] = z) := fun z h => h
      go_wp2_with fail
      refine hla.mono ?_
      rintro e w2 ⟨rfl, hb2⟩
      have HB2 := hidI (HB.out.trans (hb2.mono HB.out.size))
      clear hb2
      cases hq : lateB told r k S[m]
      · have HQ := hidI hq
        clear hq
        go_wp2
        refine ⟨⟨m + 1, by omega, by go_num, fun j h1 hj => ?_, HB2.out⟩, by simp [intOf]; omega⟩
        by_cases hj2 : j < m
        · exact HV.out j h1 hj2
        · obtain rfl : j = m := by omega
          exact HQ.out
      · have HQ : Hid (S.any (lateB told r k) = true) := List.any_eq_true.2 ⟨_, List.getElem_mem hlt, hq⟩
        clear hq
        go_wp2
        go_ret
        refine ⟨⟨_, rfl, ?_⟩, HB2.out⟩
        show _ = _
        rw [HQ.out]
        simp
    · have HQ : Hid (S.any (lateB told r k) = false) := by
        show _ = _
        rw [List.any_eq_false]
        intro y hy
        obtain ⟨i, hi, rfl⟩ := List.mem_iff_getElem.1 hy
        simp [HV.out i hi (by omega)]
      go_wp2
      go_ret
      refine ⟨⟨_, rfl, ?_⟩, HB.out⟩
      show _ = _
      rw [HQ.out]
      simp
set_option maxHeartbeats 1000000 in
theorem containsLate_any {n R T : Nat} {gp : Option Addr} {gc bt bg br bk : Nat} {told : Nat → Bool} {r : Nat → Nat} {k : Nat} {w : World} (hn : n ≤ 10) (hw : OrdW w n 4 3 R T gp gc bt bg br told r) (hr : ∀ j, j < n → r j < n) (hk : k < n) (hbk : w.cell? ⟨bk, 0, none⟩ = some (.int .i64 k)) (S : List Int) (p : Option Addr) (c : Nat) (hl : S.length ≤ 9223372036854775807) (hS : SliceAt w 1 IntR p S) (hI : ∀ x ∈ S, 0 ≤ x ∧ x < (n : Int)) :
    Calls Tryd.prog 62 #[.slice p S.length c, .func (.func 63) #[] #[.pointer (some ⟨bt, 0, none⟩), .pointer (some ⟨br, 0, none⟩), .pointer (some ⟨bk, 0, none⟩)]] w fun e w' => e = .returned (.bool (S.any (lateB told r k))) ∧ Below w.heap.size w w' := by
  have hix := indexLate_any hn hw hr hk hbk S p c hl hS hI
  clear hw hr hbk hS hI
  go_enter Tryd.func62, Tryd.ntmps62
  go_wp2_with fail
  refine hix.mono ?_
  rintro e w1 ⟨⟨m, rfl, hm⟩, hb1⟩
  go_wp2
  go_ret
  exact ⟨by rw [← hm.out]; rfl, hb1⟩
/-- is a function ready? -/
def readyG (gs : List (List Int)) (told : Nat → Bool) (r : Nat → Nat) (k : Nat) : Bool := !told k && !(gs.getD k []).any (lateB told r k)
set_option maxHeartbeats 1000000 in
theorem ready_any {R T : Nat} {gs : List (List Int)} {gp : Option Addr} {gc bt bg br : Nat} {told : Nat → Bool} {r : Nat → Nat} {k : Nat} {w : World} (hn : gs.length ≤ 10) (hw : OrdW w gs.length 4 3 R T gp gc bt bg br told r) (hr : ∀ j, j < gs.length → r j < gs.length) (hk : k < gs.length) (hS : SliceAt w 1 (IntsR w) gp gs) (hE : ∀ k (h : k < gs.length), ∀ x ∈ gs[k], 0 ≤ x ∧ x < (gs.length : Int)) :
    Calls Tryd.prog 61 #[.int .i64 k, .pointer (some ⟨bt, 0, none⟩), .pointer (some ⟨bg, 0, none⟩), .pointer (some ⟨br, 0, none⟩)] w fun e w' => e = .returned (.bool (readyG gs told r k)) ∧ Below w.heap.size w w' := by
  obtain ⟨b, o, q, d, hp, e0, hlr, hrs⟩ := rowGet hS (Below.refl _ _) hk
  subst hp
  have HS := hidI hrs
  have HE := hidI (hE k hk)
  have HW := hidI hw
  have HR := hidI hr
  have cT := hw.cT
  have cG := hw.cG
  have c1 := hw.rT.cell hk
  have z0 := lt_of_cell e0
  have z1 := lt_of_cell cT
  have z2 := lt_of_cell cG
  have z3 := hw.rT.lt
  have g1 : (k : Int) < gs.length := by omega
  have g0 : (0 : Int) ≤ (k : Int) := by omega
  have HV : Hid (readyG gs told r k = (!told k && !gs[k].any (lateB told r k))) := by
    show _ = _
    unfold readyG
    rw [List.getD, List.getElem?_eq_getElem hk]
    rfl
  clear hw hr hS hE hrs
  cases hto : told k
  · rw [hto] at c1
    have HTo := hidI hto
    clear hto
    go_enter Tryd.func61, Tryd.ntmps61
    go_wp2_with fail
    refine (containsLate_any hn (HW.out.below (by repeat (first | with_reducible exact Below.refl _ _ | with_reducible exact HB3.out | with_reducible refine Below.drew ?_ | with_reducible refine below_drewN ?_ _ | with_reducible refine Below.setCell ?_ ?_ _ | with_reducible refine Below.alloc ?_ ?_ _ | with_reducible exact HB2.out | with_reducible exact HB1.out | with_reducible refine Below.trans ?_ (Below.mono hb3 ?_) | with_reducible refine Below.trans ?_ (Below.mono hb5 ?_) | with_reducible refine Below.trans ?_ (Below.mono hb4 ?_) | omega | (simp; omega) | simp))) HR.out hk ((blk (heap_here w _)).1 0) gs[k] q d (by omega) (HS.out.mono (by repeat (first | with_reducible exact Below.refl _ _ | with_reducible exact HB3.out | with_reducible refine Below.drew ?_ | with_reducible refine below_drewN ?_ _ | with_reducible refine Below.setCell ?_ ?_ _ | with_reducible refine Below.alloc ?_ ?_ _ | with_reducible exact HB2.out | with_reducible exact HB1.out | with_reducible refine Below.trans ?_ (Below.mono hb3 ?_) | with_reducible refine Below.trans ?_ (Below.mono hb5 ?_) | with_reducible refine Below.trans ?_ (Below.mono hb4 ?_) | omega | (simp; omega) | simp)) (by omega) fun _ _ h => h) HE.out).mono ?_
    rintro e w1 ⟨rfl, hb1⟩
    have HB1 : Hid (Below w.heap.size w w1) := Below.trans (by repeat (first | with_reducible exact Below.refl _ _ | with_reducible exact HB3.out | with_reducible refine Below.drew ?_ | with_reducible refine below_drewN ?_ _ | with_reducible refine Below.setCell ?_ ?_ _ | with_reducible refine Below.alloc ?_ ?_ _ | with_reducible exact HB2.out | with_reducible exact HB1.out | with_reducible refine Below.trans ?_ (Below.mono hb3 ?_) | with_reducible refine Below.trans ?_ (Below.mono hb5 ?_) | with_reducible refine Below.trans ?_ (Below.mono hb4 ?_) | omega | (simp; omega) | simp)) (hb1.mono (by simp))
    go_wp2
    go_ret
    exact ⟨by rw [HV.out, HTo.out]; rfl, HB1.out⟩
  · rw [hto] at c1
    have HTo := hidI hto
    clear hto
    go_enter Tryd.func61, Tryd.ntmps61
    go_wp2
    go_ret
    exact ⟨by rw [HV.out, HTo.out]; rfl, by repeat (first | with_reducible exact Below.refl _ _ | with_reducible exact HB3.out | with_reducible refine Below.drew ?_ | with_reducible refine below_drewN ?_ _ | with_reducible refine Below.setCell ?_ ?_ _ | with_reducible refine Below.alloc ?_ ?_ _ | with_reducible exact HB2.out | with_reducible exact HB1.out | with_reducible refine Below.trans ?_ (Below.mono hb3 ?_) | with_reducible refine Below.trans ?_ (Below.mono hb5 ?_) | with_reducible refine Below.trans ?_ (Below.mono hb4 ?_) | omega | (simp; omega) | simp)⟩
end Go.Proofs.YteckkdmgkikeaaaDoor
