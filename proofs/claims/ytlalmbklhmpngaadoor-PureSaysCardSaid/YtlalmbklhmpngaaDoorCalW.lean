/-
  The contracts of calls.rings and calls.Rings.
-/
import Derived.Test.YtlalmbklhmpngaaDoorBCalO
import Derived.WalkKit
import Derived.WalkSpells
import Derived.WalkLawsBesides
namespace Go.Proofs.YtlalmbklhmpngaaDoor
open Go.RowKit

/-- block T is a table of n rows of truths, of which the first k are made: row j in block h j -/
structure AllR (w : World) (T n k : Nat) (ts tb : TypeId) (h : Nat → Nat) (t : Tab) : Prop where
  tab : w.rowIs T ts n (fun j => if j < k then .slice (some ⟨h j, 0, none⟩) n n else .slice none 0 0)
  row : ∀ j, j < k → w.rowIs (h j) tb n (fun x => .bool (t j x))
  off : ∀ j, j < k → T < h j
theorem AllR.made (w : World) (n : Nat) (ts tb : TypeId) (h : Nat → Nat) (t : Tab) : AllR (w.alloc (.cells (madeCells #[.slice none 0 0] n) ts)) w.heap.size n 0 ts tb h t :=
  ⟨(World.rowIs_made w _ n ts).congr fun j _ => by simp, fun j hj => by omega, fun j hj => by omega⟩
theorem AllR.below {w w' : World} {T n k : Nat} {ts tb : TypeId} {h : Nat → Nat} {t : Tab} (a : AllR w T n k ts tb h t) (hb : Below w.heap.size w w') : AllR w' T n k ts tb h t :=
  ⟨rowIs_below a.tab hb, fun j hj => rowIs_below (a.row j hj) hb, a.off⟩
theorem AllR.congr {w : World} {T n k : Nat} {ts tb : TypeId} {h : Nat → Nat} {t s : Tab} (a : AllR w T n k ts tb h t) (e : ∀ i j, i < k → j < n → t i j = s i j) : AllR w T n k ts tb h s :=
  ⟨a.tab, fun j hj => (a.row j hj).congr fun x hx => by rw [e j x hj hx], a.off⟩
/-- a row more -/
theorem AllR.next {w : World} {T n k r : Nat} {ts tb : TypeId} {h : Nat → Nat} {t : Tab} (a : AllR w T n k ts tb h t) (hr : w.rowIs r tb n (fun x => .bool (t k x))) (hT : T < r) : AllR (w.setCell ⟨T, k, none⟩ (.slice (some ⟨r, 0, none⟩) n n)) T n (k + 1) ts tb (fun j => if j = k then r else h j) t := by
  refine ⟨(a.tab.set k _).congr fun y _ => ?_, fun j hj => ?_, fun j hj => ?_⟩
  · by_cases e : y = k
    · simp [e]
    · have h2 : (y < k + 1) ↔ (y < k) := by omega
      simp [e, h2]
  · by_cases e : j = k
    · subst e
      simp only [if_true]
      exact hr.setOther (a := ⟨T, j, none⟩) (by simpa using (show r ≠ T by omega)) _
    · simp only [if_neg e]
      have := a.off j (by omega)
      exact (a.row j (by omega)).setOther (a := ⟨T, k, none⟩) (by simpa using (show h j ≠ T by omega)) _
  · by_cases e : j = k
    · simp only [if_pos e]; exact hT
    · simp only [if_neg e]; exact a.off j (by omega)
theorem AllR.cell {w : World} {T n k : Nat} {ts tb : TypeId} {h : Nat → Nat} {t : Tab} (a : AllR w T n k ts tb h t) {j : Nat} (hj : j < k) (hn : j < n) : w.cell? ⟨T, j, none⟩ = some (.slice (some ⟨h j, 0, none⟩) n n) := by
  have := a.tab.cell hn
  rwa [if_pos hj] at this
theorem AllR.bit {w : World} {T n k : Nat} {ts tb : TypeId} {h : Nat → Nat} {t : Tab} (a : AllR w T n k ts tb h t) {j x : Nat} (hj : j < k) (hx : x < n) : w.cell? ⟨h j, x, none⟩ = some (.bool (t j x)) := (a.row j hj).cell hx
theorem ints_row {w : World} {b : Nat} {t : TypeId} {n : Nat} {f : Nat → Int} (h : w.rowIs b t n (fun j => .int .i64 (f j))) (hI : ∀ j, j < n → I64 (f j)) : SliceAt w 1 IntR (some ⟨b, 0, none⟩) ((List.range n).map f) := by
  refine .inr ⟨b, 0, rfl, fun i hi => ?_⟩
  have hi2 : i < n := by simpa using hi
  refine ⟨[.int .i64 (f i)], rfl, fun j hj => ?_, by simp [IntR]; exact hI i hi2⟩
  obtain rfl : j = 0 := by omega
  simp only [Nat.zero_add, Nat.mul_one, Nat.add_zero, List.getElem?_cons_zero]
  exact h.cell hi2

theorem infoInt5 : (Tryd.prog.info? 3).map (fun i => (i.zero, i.size, i.bytes)) = some (some (.int .i64 0), 1, 8) := by kernel_rfl
theorem underInts5 : Tryd.prog.underlying 38 = some (.slice 3) := by kernel_rfl
theorem infoBools5 : (Tryd.prog.info? 50).map (fun i => (i.zero, i.size, i.bytes)) = some (some (.slice none 0 0), 1, 24) := by kernel_rfl
theorem underTab5 : Tryd.prog.underlying 99 = some (.slice 50) := by kernel_rfl

set_option maxRecDepth 100000 in
set_option maxHeartbeats 1000000 in
theorem rings_any (gs : List (List Int)) (gp : Option Addr) (gc : Nat) (t : Tab) (w : World) (hl : gs.length ≤ 10) (hS : SliceAt w 1 (IntsR w) gp gs) (hE : ∀ k (h : k < gs.length), ∀ x ∈ gs[k], 0 ≤ x ∧ x < (gs.length : Int)) (ht : ∀ a b, a < gs.length → b < gs.length → (t a b = true ↔ Path gs.length (edgeL gs) a b)) :
    Calls Tryd.prog 87 #[.slice gp gs.length gc] w fun e w' => ∃ T, e = .returned (.slice (some ⟨T, 0, none⟩) gs.length gs.length) ∧ w'.rowIs T 3 gs.length (fun k => .int .i64 (ringN gs.length t k)) ∧ w.heap.size ≤ T ∧ Below w.heap.size w w' := by
  obtain ⟨i1, k1, k2, k3, k4⟩ := info_parts infoInt5
  obtain ⟨i2, l1, l2, l3, l4⟩ := info_parts infoBools5
  have hmk1 := run_make_row 99 50 i2 (.slice none 0 0) underTab5 l1 l2 l3 rfl .i64 .i64 gs.length (by rw [l4]; omega) (by omega)
  have hmk2 := run_make_row 38 3 i1 (.int .i64 0) underInts5 k1 k2 k3 rfl .i64 .i64 gs.length (by rw [k4]; omega) (by omega)
  have HS := hidI hS
  have HE := hidI hE
  have HT := hidI ht
  clear hS hE ht
  go_enter Tryd.func87, Tryd.ntmps87
  go_wp2
  go_loopw [13] (fun i wr => ∃ (k : Nat) (h : Nat → Nat), k ≤ gs.length ∧ i = .int .i64 k ∧ AllR wr w.heap.size gs.length k 50 4 h t ∧ Below w.heap.size w wr) (fun i _ => gs.length - (intOf i).toNat)
  case atStart => exact ⟨0, fun _ => 0, by omega, rfl, AllR.made _ _ _ _ _ _, by repeat (first | with_reducible exact Below.refl _ _ | with_reducible exact HB3.out | with_reducible refine Below.drew ?_ | with_reducible refine below_drewN ?_ _ | with_reducible refine Below.setCell ?_ ?_ _ | with_reducible refine Below.alloc ?_ ?_ _ | with_reducible exact HB2.out | with_reducible exact HB1.out | with_reducible refine Below.trans ?_ (Below.mono hb3 ?_) | with_reducible refine Below.trans ?_ (Below.mono hb5 ?_) | with_reducible refine Below.trans ?_ (Below.mono hb4 ?_) | omega | (simp; omega) | simp)⟩
  case round =>
    obtain ⟨k, h, hk, rfl, hA, hb⟩ := hrel
    have HA := hidI hA
    have HB := hidI hb
    have hz := hA.tab.lt
    clear hA hb
    by_cases hlt : k < gs.length
    · go_wp2_with fail
      refine (reach_any gs gp gc k _ hl hlt (rows_below HS.out HB.out) HE.out).mono ?_
      rintro e w2 ⟨T, had, rfl, hr, hT, hp, hb2⟩
      have HA2 := HA.out.below hb2
      have hr2 : w2.rowIs T 4 gs.length (fun x => .bool (t k x)) := hr.congr fun x hx => by
        have e : had x = t k x := by rw [Bool.eq_iff_iff, hp x hx, HT.out k x hlt hx]
        rw [e]
      have HN := hidI (HA2.next hr2 (by omega))
      have hc := HA2.tab.cell hlt
      have hf := HA2.tab.frozen k
      have hz2 := HA2.tab.lt
      have HB2 := hidI (HB.out.trans (hb2.mono HB.out.size))
      clear HA2 hr2 hr hp hb2
      go_wp2
      exact ⟨⟨k + 1, _, by omega, by go_num, HN.out, HB2.out.setCell (Nat.le_refl _) _⟩, by simp [intOf]; omega⟩
    · obtain rfl : k = gs.length := by omega
      obtain ⟨wo, hwo⟩ : ∃ wo : World, wo = wr := ⟨_, rfl⟩
      go_wp2
      subst hwo
      go_loopw [28] (fun i wq => ∃ k : Nat, k ≤ gs.length ∧ i = .int .i64 k ∧ wq.rowIs wo.heap.size 3 gs.length (fun j => .int .i64 ((if j < k then ringN gs.length t j else 0 : Nat) : Int)) ∧ Below wo.heap.size wo wq) (fun i _ => gs.length - (intOf i).toNat)
      case atStart => exact ⟨0, by omega, rfl, (World.rowIs_made wo (.int .i64 0) gs.length 3).congr fun j _ => by simp, by repeat (first | with_reducible exact Below.refl _ _ | with_reducible exact HB3.out | with_reducible refine Below.drew ?_ | with_reducible refine below_drewN ?_ _ | with_reducible refine Below.setCell ?_ ?_ _ | with_reducible refine Below.alloc ?_ ?_ _ | with_reducible exact HB2.out | with_reducible exact HB1.out | with_reducible refine Below.trans ?_ (Below.mono hb3 ?_) | with_reducible refine Below.trans ?_ (Below.mono hb5 ?_) | with_reducible refine Below.trans ?_ (Below.mono hb4 ?_) | omega | (simp; omega) | simp)⟩
      case round =>
        obtain ⟨k, hk, rfl, hr, hb⟩ := hrel
        have HR := hidI hr
        have HBq := hidI hb
        clear hr hb
        by_cases hlt2 : k < gs.length
        · go_wp2
          go_loopw [7] (fun i wq => ∃ (j : Int) (y : Nat), y ≤ gs.length ∧ j + 1 = y ∧ i = .int .i64 j ∧ wq.rowIs wo.heap.size 3 gs.length (fun j => .int .i64 ((if j < k then ringN gs.length t j else if j = k then ringFrom gs.length t k y else 0 : Nat) : Int)) ∧ Below wo.heap.size wo wq) (fun i _ => (intOf i + 1).toNat)
          case atStart =>
            refine ⟨_, gs.length, Nat.le_refl _, ?_, rfl, HR.out.congr fun j _ => ?_, HBq.out⟩
            · omega
            · by_cases e : j = k
              · subst e; simp [ringFrom_end]
              · simp [e]
          case round =>
            obtain ⟨j, y, hy, hj, rfl, hr, hb⟩ := hrel
            have HA3 := HA.out.below hb
            have HB3 := hidI hb
            cases y with
            | zero =>
              obtain rfl : j = -1 := by omega
              have HR3 := hidI hr
              clear hr hb HA3
              go_wp2
              refine ⟨⟨k + 1, by omega, by go_num, HR3.out.congr fun j _ => ?_, HB3.out⟩, by simp [intOf]; omega⟩
              by_cases e : j = k
              · subst e; simp [ringFrom_zero]
              · have h2 : (j < k + 1) ↔ (j < k) := by omega
                simp [e, h2]
            | succ x =>
              obtain rfl : j = (x : Int) := by omega
              have hxn : x < gs.length := by omega
              have c1 := HA3.cell hlt2 hlt2
              have c2 := HA3.cell hxn hxn
              have c3 := HA3.bit hlt2 hxn
              have c4 := HA3.bit hxn hlt2
              have hco := hr.cell hlt2
              have hcf := hr.frozen k
              have hzo := hr.lt
              have hz1 := HA3.tab.lt
              have hz2 := (HA3.row k hlt2).lt
              have hz3 := (HA3.row x hxn).lt
              have HR3 := hidI hr
              have g1 : (0 : Int) ≤ (x : Int) := by omega
              have g2 : (x : Int) < gs.length := by omega
              clear hr hb HA3
              cases hs1 : t k x
              · have hs : Hid (ringFrom gs.length t k x = ringFrom gs.length t k (x + 1)) := ringFrom_no (by unfold sameR; rw [hs1]; rfl)
                rw [hs1] at c3
                go_wp2
                refine ⟨⟨_, x, by omega, ?_, rfl, ?_, HB3.out⟩, ?_⟩
                · omega
                · rw [hs.out]; exact HR3.out
                · simp [intOf]
              · cases hs2 : t x k
                · have hs : Hid (ringFrom gs.length t k x = ringFrom gs.length t k (x + 1)) := ringFrom_no (by unfold sameR; rw [hs2, Bool.and_false])
                  rw [hs1] at c3
                  rw [hs2] at c4
                  go_wp2
                  refine ⟨⟨_, x, by omega, ?_, rfl, ?_, HB3.out⟩, ?_⟩
                  · omega
                  · rw [hs.out]; exact HR3.out
                  · simp [intOf]
                · have hs : Hid (ringFrom gs.length t k x = x) := ringFrom_yes hxn (by unfold sameR; rw [hs1, hs2]; rfl)
                  rw [hs1] at c3
                  rw [hs2] at c4
                  go_wp2
                  refine ⟨⟨_, x, by omega, ?_, rfl, (HR3.out.set k _).congr fun j _ => ?_, HB3.out.setCell (Nat.le_refl _) _⟩, ?_⟩
                  · omega
                  · rw [hs.out]
                    by_cases e : j = k
                    · subst e; simp
                    · simp [e]
                  · simp [intOf]
        · obtain rfl : k = gs.length := by omega
          go_wp2
          go_ret
          refine ⟨wo.heap.size, rfl, HR.out.congr fun j hj => by rw [if_pos hj], ?_, HB.out.trans (HBq.out.mono HB.out.size)⟩
          exact HB.out.size
end Go.Proofs.YtlalmbklhmpngaaDoor
