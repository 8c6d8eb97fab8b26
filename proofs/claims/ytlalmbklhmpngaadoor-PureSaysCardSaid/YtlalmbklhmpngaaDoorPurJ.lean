/-
  The contracts of what pure.Of asks of a callee's ring, and of slices.Clone of numbers.
-/
import Derived.Test.YtlalmbklhmpngaaDoorPurI
import Derived.Test.YtlalmbklhmpngaaDoorCalY
import Derived.BigQuiet
import Derived.WalkKit
import Derived.WalkSpells
import Derived.WalkLawsBesides
namespace Go.Proofs.YtlalmbklhmpngaaDoor
open Go.RowKit

/-- is a function of the ring of k? -/
def sameB (r : Nat → Nat) (k : Nat) (x : Int) : Bool := r x.toNat == r k
/-- what the closure captures -/
structure RingW (w : World) (n R br bk k cr : Nat) (r : Nat → Nat) : Prop where
  cR : w.cell? ⟨br, 0, none⟩ = some (.slice (some ⟨R, 0, none⟩) n cr)
  cK : w.cell? ⟨bk, 0, none⟩ = some (.int .i64 k)
  row : ∀ j, j < n → w.cell? ⟨R, j, none⟩ = some (.int .i64 (r j : Int))
theorem RingW.below {w w' : World} {n R br bk k cr : Nat} {r : Nat → Nat} (h : RingW w n R br bk k cr r) (hb : Below w.heap.size w w') : RingW w' n R br bk k cr r :=
  ⟨(hb.cell (lt_of_cell h.cR)).trans h.cR, (hb.cell (lt_of_cell h.cK)).trans h.cK, fun j hj => (hb.cell (lt_of_cell (h.row j hj))).trans (h.row j hj)⟩
set_option maxHeartbeats 1000000 in
theorem inRing_any {n R br bk k cr : Nat} {r : Nat → Nat} {w : World} (_hn : n ≤ 10) (hw : RingW w n R br bk k cr r) (hk : k < n) (x : Int) (h0 : 0 ≤ x) (h1 : x < n) :
    Calls Tryd.prog 57 #[.int .i64 x, .pointer (some ⟨br, 0, none⟩), .pointer (some ⟨bk, 0, none⟩)] w fun e w' => e = .returned (.bool (sameB r k x)) ∧ Below w.heap.size w w' := by
  obtain ⟨y, rfl⟩ := Int.eq_ofNat_of_zero_le h0
  have hy : y < n := by omega
  have cR := hw.cR
  have cK := hw.cK
  have c2 := hw.row y hy
  have c3 := hw.row k hk
  have z2 := lt_of_cell cR
  have z3 := lt_of_cell cK
  have z5 := lt_of_cell c2
  have g1 : (k : Int) < n := by omega
  have g0 : (0 : Int) ≤ (k : Int) := by omega
  have HV : Hid (sameB r k (y : Int) = (r y == r k)) := by show _ = _; unfold sameB; simp
  clear hw
  cases he : r y == r k
  · have hq : ((r y : Int) == (r k : Int)) = false := by simp at he ⊢; omega
    have HW : Hid (sameB r k (y : Int) = false) := by show _ = _; rw [HV.out, he]
    clear he HV
    go_enter Tryd.func57, Tryd.ntmps57
    go_wp2
    go_quiet (fail)
    go_wp2
    go_ret
    exact ⟨by rw [HW.out]; rfl, by repeat (first | with_reducible exact Below.refl _ _ | with_reducible exact HB3.out | with_reducible refine Below.drew ?_ | with_reducible refine below_drewN ?_ _ | with_reducible refine Below.setCell ?_ ?_ _ | with_reducible refine Below.alloc ?_ ?_ _ | with_reducible exact HB2.out | with_reducible exact HB1.out | with_reducible refine Below.trans ?_ (Below.mono hb3 ?_) | with_reducible refine Below.trans ?_ (Below.mono hb5 ?_) | with_reducible refine Below.trans ?_ (Below.mono hb4 ?_) | omega | (simp; omega) | simp)⟩
  · have hq : ((r y : Int) == (r k : Int)) = true := by simp at he ⊢; omega
    have HW : Hid (sameB r k (y : Int) = true) := by show _ = _; rw [HV.out, he]
    clear he HV
    go_enter Tryd.func57, Tryd.ntmps57
    go_wp2
    go_quiet (fail)
    go_wp2
    go_ret
    exact ⟨by rw [HW.out]; rfl, by repeat (first | with_reducible exact Below.refl _ _ | with_reducible exact HB3.out | with_reducible refine Below.drew ?_ | with_reducible refine below_drewN ?_ _ | with_reducible refine Below.setCell ?_ ?_ _ | with_reducible refine Below.alloc ?_ ?_ _ | with_reducible exact HB2.out | with_reducible exact HB1.out | with_reducible refine Below.trans ?_ (Below.mono hb3 ?_) | with_reducible refine Below.trans ?_ (Below.mono hb5 ?_) | with_reducible refine Below.trans ?_ (Below.mono hb4 ?_) | omega | (simp; omega) | simp)⟩

set_option maxHeartbeats 1000000 in
theorem indexRing_any {n R br bk k cr : Nat} {r : Nat → Nat} {w : World} (hn : n ≤ 10) (hw : RingW w n R br bk k cr r) (hk : k < n) (S : List Int) (p : Option Addr) (c : Nat) (hl : S.length ≤ 9223372036854775807) (hS : SliceAt w 1 IntR p S) (hI : ∀ x ∈ S, 0 ≤ x ∧ x < (n : Int)) :
    Calls Tryd.prog 91 #[.slice p S.length c, .func (.func 57) #[] #[.pointer (some ⟨br, 0, none⟩), .pointer (some ⟨bk, 0, none⟩)]] w fun e w' => (∃ m : Int, e = .returned (.int .i64 m) ∧ Hid (decide (0 ≤ m) = S.any (sameB r k))) ∧ Below w.heap.size w w' := by
  have HW := hidI hw
  have HS := hidI hS
  have HI := hidI hI
  clear hw hS hI
  go_enter Tryd.func91, Tryd.ntmps91
  go_wp2
  go_loopw [8] (fun i wr => ∃ m : Nat, m ≤ S.length ∧ i = .int .i64 m ∧ (∀ j (h : j < S.length), j < m → sameB r k S[j] = false) ∧ Below w.heap.size w wr) (fun i _ => S.length - (intOf i).toNat)
  case atStart => exact ⟨0, by omega, rfl, fun j _ h => by omega, Below.refl _ _⟩
  case round =>
    obtain ⟨m, hm, rfl, hV, hb⟩ := hrel
    have HV := hidI hV
    have HB := hidI hb
    clear hV hb
    by_cases hlt : m < S.length
    · obtain ⟨b, o, hp, e0, _⟩ := intGet HS.out HB.out hlt
      subst hp
      obtain ⟨hx0, hx1⟩ := HI.out _ (List.getElem_mem hlt)
      have hla := inRing_any hn (HW.out.below HB.out) hk S[m] hx0 hx1
      have HLT := hidI hlt
      have HE : Hid (∀ z, sameB r k S[m] = z → sameB r k S[m] = z) := fun z h => h
      go_wp2_with fail
      refine hla.mono ?_
      rintro e w2 ⟨rfl, hb2⟩
      have HB2 := hidI (HB.out.trans (hb2.mono HB.out.size))
      clear hb2
      cases hq : sameB r k S[m]
      · have HQ := hidI hq
        clear hq
        go_wp2
        refine ⟨⟨m + 1, by omega, by go_num, fun j h1 hj => ?_, HB2.out⟩, by simp [intOf]; omega⟩
        by_cases hj2 : j < m
        · exact HV.out j h1 hj2
        · obtain rfl : j = m := by omega
          exact HQ.out
      · have HQ : Hid (S.any (sameB r k) = true) := List.any_eq_true.2 ⟨_, List.getElem_mem hlt, hq⟩
        clear hq
        go_wp2
        go_ret
        refine ⟨⟨_, rfl, ?_⟩, HB2.out⟩
        show _ = _
        rw [HQ.out]
        simp
    · have HQ : Hid (S.any (sameB r k) = false) := by
        show _ = _
        rw [List.any_eq_false]
        intro y hy
        obtain ⟨i, hi, rfl⟩ := List.mem_iff_getElem.1 hy
        simp [HV.out i hi (by omega)]
      go_wp2
      go_ret
      refine ⟨⟨_, rfl, ?_⟩, HB.out⟩
      show _ = _
      rw [HQ.out]
      simp
set_option maxHeartbeats 1000000 in
theorem containsRing_any {n R br bk k cr : Nat} {r : Nat → Nat} {w : World} (hn : n ≤ 10) (hw : RingW w n R br bk k cr r) (hk : k < n) (S : List Int) (p : Option Addr) (c : Nat) (hl : S.length ≤ 9223372036854775807) (hS : SliceAt w 1 IntR p S) (hI : ∀ x ∈ S, 0 ≤ x ∧ x < (n : Int)) :
    Calls Tryd.prog 56 #[.slice p S.length c, .func (.func 57) #[] #[.pointer (some ⟨br, 0, none⟩), .pointer (some ⟨bk, 0, none⟩)]] w fun e w' => e = .returned (.bool (S.any (sameB r k))) ∧ Below w.heap.size w w' := by
  have hix := indexRing_any hn hw hk S p c hl hS hI
  clear hw hS hI
  go_enter Tryd.func56, Tryd.ntmps56
  go_wp2_with fail
  refine hix.mono ?_
  rintro e w1 ⟨⟨m, rfl, hm⟩, hb1⟩
  go_wp2
  go_ret
  exact ⟨by rw [← hm.out]; rfl, hb1⟩

/-- a literal of no elements -/
theorem own_lit {w : World} {e : TypeId} {B g : Nat} {T : TypeId} (h : w.heap[g]? = some (.cells #[] T (0, 0))) (hB : B ≤ g) (hT : T = e) : w.ownsRow B e 1 (.slice (some ⟨g, 0, none⟩) 0 0) 0 [] := by
  subst hT
  exact ⟨by simp, .inr ⟨g, 0, #[], rfl, hB, h, by simp, by simp, by simp⟩⟩
set_option maxRecDepth 100000 in
set_option maxHeartbeats 1000000 in
/-- a row of one's own, copied -/
theorem clone_any (xs : List Int) (T c : Nat) (w : World) (hn : xs.length ≤ 1000) (hn0 : 0 < xs.length) (hT : ∀ j (h : j < xs.length), w.cell? ⟨T, j, none⟩ = some (.int .i64 xs[j])) :
    Calls Tryd.prog 58 #[.slice (some ⟨T, 0, none⟩) xs.length c] w fun e w' => ∃ p c', e = .returned (.slice p xs.length c') ∧ w'.ownsRow w.heap.size 3 1 (.slice p xs.length c') xs.length (xs.map (.int .i64)) ∧ Below w.heap.size w w' := by
  obtain ⟨i1, k1, k2, k3, k4⟩ := info_parts infoInt6
  have HT := hidI hT
  have he : ∀ w : World, (binOp .eql 38 (.slice (some ⟨T, 0, none⟩) xs.length c) (.slice none 0 0)).run Tryd.prog w = .ok (.bool false) w := fun _ => rfl
  clear hT
  go_enter Tryd.func58, Tryd.ntmps58
  go_wp2_with (at_builtin; refine wpList_append_own _ rfl (.tmp 5) (.tmp 6) 38 rfl w.heap.size 3 i1 _ 1 8 Tryd.underlying38 k1 k2 k3 k4 rfl (by decide) _ 0 [] rfl ?c0 ⟨T, 0, none⟩ xs.length c (xs.map (.int .i64)) rfl ?c1 ?c2 ?c3 ?c4 ?c5 ?c6 ?_)
  case c0 => exact own_lit (heap_here _ _) (Nat.le_refl _) rfl
  case c1 => simp
  case c2 =>
    intro j u hu
    have hj : j < xs.length := by have := (List.getElem?_eq_some_iff.1 hu).1; simpa using this
    obtain rfl : u = .int .i64 xs[j] := by
      rw [List.getElem?_map, List.getElem?_eq_getElem hj] at hu
      exact (Option.some.inj hu).symm
    have h1 := HT.out j hj
    have e : (⟨T, 0, none⟩ : Addr).add j = ⟨T, j, none⟩ := by simp [Addr.add_lit]
    rw [e]
    exact (((Below.refl _ w).alloc (Nat.le_refl _) _).cell (p := ⟨T, j, none⟩) (lt_of_cell h1)).trans h1
  case c3 => intro u hu; obtain ⟨x, _, rfl⟩ := List.mem_map.1 hu; rfl
  case c4 => unfold maxLen; omega
  case c5 => omega
  case c6 => simp
  intro v' w' hown hg _
  obtain ⟨p, c', rfl⟩ := own_slice hown
  go_wp2
  refine bodyPost_ret (v := .slice p xs.length c') ?_ rfl ⟨p, c', by simp, ?_, ?_⟩
  · simp [results, Tryd.results58, go_sem]
  · simpa using hown
  · exact Below.grown (by repeat (first | with_reducible exact Below.refl _ _ | with_reducible exact HB3.out | with_reducible refine Below.drew ?_ | with_reducible refine below_drewN ?_ _ | with_reducible refine Below.setCell ?_ ?_ _ | with_reducible refine Below.alloc ?_ ?_ _ | with_reducible exact HB2.out | with_reducible exact HB1.out | with_reducible refine Below.trans ?_ (Below.mono hb3 ?_) | with_reducible refine Below.trans ?_ (Below.mono hb5 ?_) | with_reducible refine Below.trans ?_ (Below.mono hb4 ?_) | omega | (simp; omega) | simp)) hg (by simp) (fun b e => by cases e; exact Nat.le_refl _)
end Go.Proofs.YtlalmbklhmpngaaDoor
