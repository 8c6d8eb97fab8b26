/-
  The contract of what calls.reach does at one function: depth first.
-/
import Derived.Test.YteckkdmgkikeaaaDoorCalO
import Derived.WalkKit
import Derived.WalkSpells
import Derived.WalkLawsBesides
namespace Go.Proofs.YteckkdmgkikeaaaDoor
open Go.RowKit

set_option maxHeartbeats 1000000 in
theorem visit_any (gs : List (List Int)) (gp : Option Addr) (gc : Nat) (w0 : World) (_hl : gs.length ≤ 10) (hS : SliceAt w0 1 (IntsR w0) gp gs) (hE : ∀ k (h : k < gs.length), ∀ x ∈ gs[k], 0 ≤ x ∧ x < (gs.length : Int)) (V H G F : Nat) (hV : w0.heap.size ≤ V) (hVH : V ≠ H) (hVG : V ≠ G) (hVF : V ≠ F) :
    ∀ (c : Nat) (had : Nat → Bool) (w : World) (k : Nat), leftN gs.length had < c → k < gs.length → Below w0.heap.size w0 w → w.rowIs V 4 gs.length (fun j => .bool (had j)) →
      w.cell? ⟨H, 0, none⟩ = some (.slice (some ⟨V, 0, none⟩) gs.length gs.length) → w.cell? ⟨G, 0, none⟩ = some (.slice gp gs.length gc) → w.cell? ⟨F, 0, none⟩ = some (.func (.func 97) #[] #[.pointer (some ⟨H, 0, none⟩), .pointer (some ⟨G, 0, none⟩), .pointer (some ⟨F, 0, none⟩)]) →
      Calls Tryd.prog 97 #[.int .i64 k, .pointer (some ⟨H, 0, none⟩), .pointer (some ⟨G, 0, none⟩), .pointer (some ⟨F, 0, none⟩)] w fun e w' => e = .returned (.tuple #[]) ∧ w.grownBy w' (some V) ∧ ∃ had', w'.rowIs V 4 gs.length (fun j => .bool (had' j)) ∧ Visits gs.length gs k had had' := by
  intro c
  induction c with
  | zero => intro had w k h; omega
  | succ c ih =>
    intro had w k hc hk hb hR cH cG cF
    obtain ⟨b, o, q, d, hp, e0, hlr, hrs⟩ := rowGet hS (Below.refl _ _) hk
    subst hp
    have hbb := lt_of_cell e0
    have e1 := (hb.cell (p := ⟨b, o + k, none⟩) hbb).trans e0
    have HB := hidI hb
    have HR := hidI hR
    have HS := hidI hS
    have HRS := hidI hrs
    have HE := hidI hE
    have hcV := hR.cell hk
    have hfV := hR.frozen k
    have hVs := hR.lt
    have IH := hidI ih
    clear ih hb hS hrs e0 hE
    cases hh : had k
    · have hbV : b ≠ V := by omega
      rw [hh] at hcV
      have hVH' := hVH.symm
      have hVG' := hVG.symm
      have hVF' := hVF.symm
      have hbV' := hbV.symm
      have HH := hidI hh
      have HR1 := hidI (hR.set k (.bool true))
      clear hR hh
      go_enter Tryd.func97, Tryd.ntmps97
      go_wp2
      go_loopw [6, 19] (fun _ i wr => ∃ (m : Nat) (had1 : Nat → Bool), m ≤ gs[k].length ∧ i = .int .i64 m ∧ VisitsTo gs.length gs k gs[k] m had had1 ∧ wr.rowIs V 4 gs.length (fun j => .bool (had1 j)) ∧ w.grownBy wr (some V)) (fun _ i _ => gs[k].length - (intOf i).toNat)
      case atStart =>
        refine ⟨0, fun j => if j = k then true else had j, by omega, rfl, .start, HR1.out.congr fun j _ => ?_, ⟨rfl, rfl, rfl, by rw [Go.Deep.nblk_setCell]; exact Nat.le_refl _, fun i _ hne => Go.Deep.blk_setCell_other _ _ _ _ (fun e => hne (by rw [e]))⟩⟩
        show (if j = k then _ else _) = Value.bool (if j = k then true else had j)
        split <;> rfl
      case round =>
        obtain ⟨m, had1, hm, rfl, hv, hr1, hg1⟩ := hrel
        have hlF := lt_of_cell cF
        have hlH := lt_of_cell cH
        have hlG := lt_of_cell cG
        have hsz := HB.out.size
        have hBr : Below w0.heap.size w0 wr := HB.out.grown hg1 hsz (fun b e => by cases e; exact hV)
        by_cases hlt : m < gs[k].length
        · obtain ⟨b4, o4, hp4, f0, hi⟩ := intGet HRS.out hBr hlt
          subst hp4
          obtain ⟨hx0, hx1⟩ := HE.out k hk _ (List.getElem_mem hlt)
          obtain ⟨y, hy⟩ : ∃ y : Nat, gs[k][m] = (y : Int) := ⟨gs[k][m].toNat, by omega⟩
          rw [hy] at f0 hx1
          have hyn : y < gs.length := by omega
          have cF1 := (World.cell?_of_block (a := ⟨F, 0, none⟩) (hg1.block F hlF (by simp; exact hVF'))).trans cF
          have cH1 := (World.cell?_of_block (a := ⟨H, 0, none⟩) (hg1.block H hlH (by simp; exact hVH'))).trans cH
          have cG1 := (World.cell?_of_block (a := ⟨G, 0, none⟩) (hg1.block G hlG (by simp; exact hVG'))).trans cG
          have hless : leftN gs.length had1 < c := by
            have := leftN_less hv.up hk HH.out hv.self
            omega
          have HV := hidI hv
          have HG1 := hidI hg1
          have HR2 := hidI hr1
          have HBR := hidI hBr
          have HY := hidI hy
          clear hv hg1 hr1 hBr hy
          go_wp2_with (go_at_call 97; refine (IH.out had1 wr y hless hyn HBR.out HR2.out cH1 cG1 cF1).mono ?_; rintro e w2 ⟨rfl, hg2, had2, hr2, hv2⟩)
          refine ⟨⟨m + 1, had2, by omega, by go_num, HV.out.succ (List.getElem?_eq_getElem hk) hlt HY.out hyn hv2, hr2, ?_⟩, by simp [intOf]; omega⟩
          exact ⟨hg2.os.trans HG1.out.os, hg2.tape.trans HG1.out.tape, hg2.output.trans HG1.out.output, Nat.le_trans HG1.out.size hg2.size, fun i hi hne => (hg2.block i (by have := HG1.out.size; omega) hne).trans (HG1.out.block i hi hne)⟩
        · obtain rfl : m = gs[k].length := by omega
          go_wp2
          go_end0
          exact ⟨rfl, hg1, had1, hr1, hv.done (List.getElem?_eq_getElem hk)⟩
    · rw [hh] at hcV
      go_enter Tryd.func97, Tryd.ntmps97
      go_wp2
      exact bodyPost_ret (v := .tuple #[]) (results_none rfl _ _ _) rfl ⟨rfl, ⟨rfl, rfl, rfl, Nat.le_refl _, fun _ _ _ => rfl⟩, had, HR.out, Visits.had hh⟩
end Go.Proofs.YteckkdmgkikeaaaDoor
