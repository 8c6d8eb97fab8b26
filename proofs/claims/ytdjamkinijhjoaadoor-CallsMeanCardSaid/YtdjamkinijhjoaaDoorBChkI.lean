/-
  The contract of the checker's ins, for an instruction that has a Dst.
The contract of the checker's ins, of every instruction.
-/
import Derived.Test.YtdjamkinijhjoaaDoorChkH
import Derived.WalkKit
import Derived.WalkSpells
import Derived.WalkLawsBesides
namespace Go.Proofs.YtdjamkinijhjoaaDoor
open Go.RowKit

set_option maxRecDepth 100000 in
set_option maxHeartbeats 1000000 in
theorem ins_d1 (g1 f1 b1 a1 p : Option Addr) (g2 g3 f2 f3 b2 b3 a2 a3 c : Nat) (nm : ByteArray) (params regs op dst an bn fn : Int) (ar br d a b : Bool) (P : Nat → Int) (L : List (Bool × Int)) (w : World) (h : 1 ≤ op ∧ op ≤ 22)
    (hf : f2 ≤ 9223372036854775807) (h1 : 0 ≤ regs) (h2 : regs ≤ 9223372036854775807)
    (hP : f2 = 0 ∨ ∃ fb fo, f1 = some ⟨fb, fo, none⟩ ∧ ∀ i, i < f2 → w.cell? ⟨fb, fo + i * 4 + 1, none⟩ = some (.int .i64 (P i))) (hl2 : L.length ≤ 9223372036854775807) (hL : SliceAt w 2 ValR p L)
    (hd : shD op = d) (ha : shA op = a) (hb : shB op = b) (hd0 : d = true) :
    Calls Tryd.prog 72 #[.agg #[.slice g1 g2 g3, .slice f1 f2 f3, .string nm, .int .i64 params, .int .i64 regs, .slice b1 b2 b3, .slice a1 a2 a3], .agg #[.int .i64 op, .int .i64 dst, .bool ar, .int .i64 an, .bool br, .int .i64 bn, .int .i64 fn, .slice p L.length c]] w fun e w' => e = .returned (.int .i64 (insE regs f2 P op dst an bn fn ar br L)) ∧ Below w.heap.size w w' := by
  have hw : wthn op 1 22 = true := by simp only [wthn, decide_eq_true_eq]; exact h
  have hs := fun w => shapes_any op w h
  have E2 : Hid (¬a = true → ar = true → insE regs f2 P op dst an bn fn ar br L = 5) := fun x y => insE_1 h (.inr (.inl ⟨by rw [ha]; simpa using x, by rw [y]; simp⟩))
  have E3 : Hid (¬a = true → ¬an = 0 → insE regs f2 P op dst an bn fn ar br L = 5) := fun x y => insE_1 h (.inr (.inl ⟨by rw [ha]; simpa using x, fun z => y z.2⟩))
  have E4 : Hid (¬b = true → br = true → insE regs f2 P op dst an bn fn ar br L = 5) := fun x y => insE_1 h (.inr (.inr (.inl ⟨by rw [hb]; simpa using x, by rw [y]; simp⟩)))
  have E5 : Hid (¬b = true → ¬bn = 0 → insE regs f2 P op dst an bn fn ar br L = 5) := fun x y => insE_1 h (.inr (.inr (.inl ⟨by rw [hb]; simpa using x, fun z => y z.2⟩)))
  have E6 : Hid ((!op == 20) = true → ¬fn = 0 → insE regs f2 P op dst an bn fn ar br L = 5) := fun x y => insE_1 h (.inr (.inr (.inr ⟨by simpa using x, .inl y⟩)))
  have E7 : Hid (((!op == 20) = true ∧ 0 < L.length) → insE regs f2 P op dst an bn fn ar br L = 5) := fun x => insE_1 h (.inr (.inr (.inr ⟨by simpa using x.1, .inr x.2⟩)))
  have E8 : Hid ((a = true ∨ (¬ar = true ∧ an = 0)) → (b = true ∨ (¬br = true ∧ bn = 0)) → ((!op == 20) = false ∨ (fn = 0 ∧ ¬0 < L.length)) → insE regs f2 P op dst an bn fn ar br L = if ¬(op = 20 ∧ dst = -1) ∧ dstE regs dst ≠ 0 then dstE regs dst else firstE [valE regs ar an, valE regs br bn, callE regs f2 P (op == 20) fn L]) := fun y z u => by
    rw [insE_2 h (.inl (hd.trans hd0)) (by rw [ha]; exact y) (by rw [hb]; exact z) u]
    simp [hd, hd0]
  rw [hd, ha, hb] at hs
  have HS : Hid (∀ w, Calls Tryd.prog 86 #[.int .i64 op] w fun e w' => e = .returned (.agg #[.bool d, .bool a, .bool b]) ∧ w' = w.alloc (.cells #[.bool d, .bool a, .bool b] 154)) := hs
  have HP : Hid (f2 = 0 ∨ ∃ fb fo, f1 = some ⟨fb, fo, none⟩ ∧ ∀ i, i < f2 → w.cell? ⟨fb, fo + i * 4 + 1, none⟩ = some (.int .i64 (P i))) := hP
  have HL : Hid (SliceAt w 2 ValR p L) := hL
  subst hd0
  generalize hl : L.length = l at *
  have HZ : Hid (L.length = l) := hl
  clear hs hd ha hb h hP hL hl
  go_enter Tryd.func72, Tryd.ntmps72
  go_wp2_with (first | (go_at_call 34; refine (within_any _ _ _ _).mono ?_; rintro e w1 ⟨rfl, rfl⟩) | (go_at_call 86; refine (HS.out _).mono ?_; rintro e w1 ⟨rfl, rfl⟩) | (go_at_call 115; refine (dst_any _ _ _ _ _ _ _ _ _ _ _ _ _ _ _ _ _ h1 h2).mono ?_; rintro e w3 ⟨rfl, hb3⟩; have hz3 := hb3.size; simp at hz3))
  all_goals first
    | (go_ret; (have hE : insE regs f2 P op dst an bn fn ar br L = 5 := by first | exact E2.out ‹¬a = true› ‹ar = true› | exact E3.out ‹¬a = true› ‹¬an = 0› | exact E4.out ‹¬b = true› ‹br = true› | exact E5.out ‹¬b = true› ‹¬bn = 0› | exact E6.out ‹(!op == 20) = true› ‹¬fn = 0› | exact E7.out ‹(!op == 20) = true ∧ 0 < l›); refine ⟨by rw [hE]; rfl, ?_⟩; repeat (first | with_reducible exact Below.refl _ _ | with_reducible exact HB3.out | with_reducible refine Below.drew ?_ | with_reducible refine below_drewN ?_ _ | with_reducible refine Below.setCell ?_ ?_ _ | with_reducible refine Below.alloc ?_ ?_ _ | with_reducible exact HB2.out | with_reducible exact HB1.out | with_reducible refine Below.trans ?_ (Below.mono hb3 ?_) | with_reducible refine Below.trans ?_ (Below.mono hb5 ?_) | with_reducible refine Below.trans ?_ (Below.mono hb4 ?_) | omega | (simp; omega) | simp))
    | skip
  all_goals try
    have hED : insE regs f2 P op dst an bn fn ar br L = dstE regs dst := by
      have gd := ‹(dstE regs dst != 0) = true›
      refine (E8.out ?_ ?_ ?_).trans (if_pos ⟨?_, by simpa using gd⟩)
      · first | exact .inl ‹a = true› | exact .inr ⟨‹¬ar = true›, ‹an = 0›⟩
      · first | exact .inl ‹b = true› | exact .inr ⟨‹¬br = true›, ‹bn = 0›⟩
      · first | exact .inl ‹(!op == 20) = false› | (refine .inl ?_; have g := ‹op = 20›; simp [g]; done) | exact .inr ⟨‹fn = 0›, ‹¬0 < l›⟩ | (rcases ‹(!op == 20) = false ∨ ¬0 < l› with g | g; (exact .inl g); exact .inr ⟨‹fn = 0›, g⟩)
      · first | exact fun g => ‹¬op = 20› g.1 | (have g := ‹(!dst == -1) = true›; simp at g; exact fun h => g h.2)
    go_ret
    refine ⟨by rw [hED]; rfl, ?_⟩
    repeat (first | with_reducible exact Below.refl _ _ | with_reducible exact HB3.out | with_reducible refine Below.drew ?_ | with_reducible refine below_drewN ?_ _ | with_reducible refine Below.setCell ?_ ?_ _ | with_reducible refine Below.alloc ?_ ?_ _ | with_reducible exact HB2.out | with_reducible exact HB1.out | with_reducible refine Below.trans ?_ (Below.mono hb3 ?_) | with_reducible refine Below.trans ?_ (Below.mono hb5 ?_) | with_reducible refine Below.trans ?_ (Below.mono hb4 ?_) | omega | (simp; omega) | simp)
    done
  all_goals
    have hE : insE regs f2 P op dst an bn fn ar br L = firstE [valE regs ar an, valE regs br bn, callE regs f2 P (op == 20) fn L] := by
      refine (E8.out ?_ ?_ ?_).trans (if_neg ?_)
      · first | exact .inl ‹a = true› | exact .inr ⟨‹¬ar = true›, ‹an = 0›⟩
      · first | exact .inl ‹b = true› | exact .inr ⟨‹¬br = true›, ‹bn = 0›⟩
      · first | exact .inl ‹(!op == 20) = false› | (refine .inl ?_; have g := ‹op = 20›; simp [g]; done) | exact .inr ⟨‹fn = 0›, ‹¬0 < l›⟩ | (rcases ‹(!op == 20) = false ∨ ¬0 < l› with g | g; (exact .inl g); exact .inr ⟨‹fn = 0›, g⟩)
      · first | (have gd := ‹(dstE regs dst != 0) = false›; exact fun g => g.2 (by simpa using gd)) | (have gd := ‹(!dst == -1) = false›; exact fun g => g.1 ⟨‹op = 20›, by simpa using gd⟩)
    clear E2 E3 E4 E5 E6 E7 E8 HS
    (have g := HZ.out; subst g)
    generalize hv : firstE [valE regs ar an, valE regs br bn, callE regs f2 P (op == 20) fn L] = v at hE
    have HVV : Hid (firstE [valE regs ar an, valE regs br bn, callE regs f2 P (op == 20) fn L] = v) := hv
    clear hv
    refine (first_any _ _ _ ⟨w.heap.size, 0, none⟩ ⟨w.heap.size + 1, 0, none⟩ ⟨w.heap.size + 1 + 1 + 1 + 1, 0, none⟩ _ _ _ _ ?g0 ?g1 ?g2 (ins1_asks (g1 := g1) (g2 := g2) (g3 := g3) (f1 := f1) (f2 := f2) (f3 := f3) (nm := nm) (params := params) (regs := regs) (b1 := b1) (b2 := b2) (b3 := b3) (a1 := a1) (a2 := a2) (a3 := a3) (op := op) (dst := dst) (an := an) (bn := bn) (fn := fn) (ar := ar) (br := br) (p := p) (c := c) (l := L.length) ?hB ?hX h1 h2) (ins2_asks ?hB ?hX h1 h2) (ins3_asks (call := op == 20) P L ?hB ?hX ?hC hf h1 h2 ?hP hl2 ?hL)).mono ?fin
    case g0 => exact ((blk (heap_at (by simp))).1 0).trans rfl
    case g1 => exact ((blk (heap_at (by simp))).1 1).trans rfl
    case g2 => exact ((blk (heap_at (by simp))).1 2).trans rfl
    case hB => (repeat (first | exact heap_at (by simp) | refine heap_below hb3 (by first | (simp; done) | (simp; omega)) ?_ | refine heap_step ?_))
    case hX =>
      (try (have g := ‹(!dst == -1) = false›; simp only [Bool.not_eq_false', beq_iff_eq] at g; subst g))
      (try (have g := ‹an = 0›; subst g))
      (try (have g := ‹bn = 0›; subst g))
      (try (have g := ‹fn = 0›; subst g))
      (try (have g := ‹op = 20›; subst g))
      (try (have g := Bool.eq_false_iff.2 ‹¬ar = true›; subst g))
      (try (have g := Bool.eq_false_iff.2 ‹¬br = true›; subst g))
      repeat (first | exact heap_at (by simp) | refine heap_below hb3 (by first | (simp; done) | (simp; omega)) ?_ | refine heap_step ?_)
    case hC =>
      first | refine Eq.trans ((blk (heap_step (heap_below hb3 (by first | (simp; done) | (simp; omega)) (heap_at (by simp))))).1 0) ?_ | refine Eq.trans ((blk (heap_step (heap_at (by simp)))).1 0) ?_
      first | rfl | (have g := ‹op = 20›; subst g; rfl) | (have g := ‹(!op == 20) = false›; simp only [Bool.not_eq_false'] at g; rw [g]; rfl) | (have g := ‹(!op == 20) = true›; simp only [Bool.not_eq_true'] at g; rw [g]; rfl)
    case hL => exact HL.out.to (by decide) (by repeat (first | with_reducible exact Below.refl _ _ | with_reducible exact HB3.out | with_reducible refine Below.drew ?_ | with_reducible refine below_drewN ?_ _ | with_reducible refine Below.setCell ?_ ?_ _ | with_reducible refine Below.alloc ?_ ?_ _ | with_reducible exact HB2.out | with_reducible exact HB1.out | with_reducible refine Below.trans ?_ (Below.mono hb3 ?_) | with_reducible refine Below.trans ?_ (Below.mono hb5 ?_) | with_reducible refine Below.trans ?_ (Below.mono hb4 ?_) | omega | (simp; omega) | simp)) (fun _ _ _ h => h)
    case hP =>
      rcases HP.out with g | ⟨fb, fo, g, k⟩
      · exact .inl g
      · refine .inr ⟨fb, fo, g, fun i hi => ?_⟩
        refine Eq.trans (Below.cell (B := w.heap.size) (w := w) ?_ (p := ⟨fb, fo + i * 4 + 1, none⟩) (lt_of_cell (k i hi))) (k i hi)
        repeat (first | with_reducible exact Below.refl _ _ | with_reducible exact HB3.out | with_reducible refine Below.drew ?_ | with_reducible refine below_drewN ?_ _ | with_reducible refine Below.setCell ?_ ?_ _ | with_reducible refine Below.alloc ?_ ?_ _ | with_reducible exact HB2.out | with_reducible exact HB1.out | with_reducible refine Below.trans ?_ (Below.mono hb3 ?_) | with_reducible refine Below.trans ?_ (Below.mono hb5 ?_) | with_reducible refine Below.trans ?_ (Below.mono hb4 ?_) | omega | (simp; omega) | simp)
    case fin =>
      rintro e w4 ⟨rfl, hb4⟩
      rw [HVV.out]
      go_wp2
      go_ret
      refine ⟨by rw [hE]; rfl, ?_⟩
      repeat (first | with_reducible exact Below.refl _ _ | with_reducible exact HB3.out | with_reducible refine Below.drew ?_ | with_reducible refine below_drewN ?_ _ | with_reducible refine Below.setCell ?_ ?_ _ | with_reducible refine Below.alloc ?_ ?_ _ | with_reducible exact HB2.out | with_reducible exact HB1.out | with_reducible refine Below.trans ?_ (Below.mono hb3 ?_) | with_reducible refine Below.trans ?_ (Below.mono hb5 ?_) | with_reducible refine Below.trans ?_ (Below.mono hb4 ?_) | omega | (simp; omega) | simp)
end Go.Proofs.YtdjamkinijhjoaaDoor
namespace Go.Proofs.YtdjamkinijhjoaaDoor
open Go.RowKit

theorem ins_any (g1 f1 b1 a1 p : Option Addr) (g2 g3 f2 f3 b2 b3 a2 a3 c : Nat) (nm : ByteArray) (params regs op dst an bn fn : Int) (ar br : Bool) (P : Nat → Int) (L : List (Bool × Int)) (w : World)
    (hf : f2 ≤ 9223372036854775807) (h1 : 0 ≤ regs) (h2 : regs ≤ 9223372036854775807)
    (hP : f2 = 0 ∨ ∃ fb fo, f1 = some ⟨fb, fo, none⟩ ∧ ∀ i, i < f2 → w.cell? ⟨fb, fo + i * 4 + 1, none⟩ = some (.int .i64 (P i))) (hl2 : L.length ≤ 9223372036854775807) (hL : SliceAt w 2 ValR p L) :
    Calls Tryd.prog 72 #[.agg #[.slice g1 g2 g3, .slice f1 f2 f3, .string nm, .int .i64 params, .int .i64 regs, .slice b1 b2 b3, .slice a1 a2 a3], .agg #[.int .i64 op, .int .i64 dst, .bool ar, .int .i64 an, .bool br, .int .i64 bn, .int .i64 fn, .slice p L.length c]] w fun e w' => e = .returned (.int .i64 (insE regs f2 P op dst an bn fn ar br L)) ∧ Below w.heap.size w w' := by
  by_cases h : 1 ≤ op ∧ op ≤ 22
  · cases hd : shD op
    · exact ins_d0 _ _ _ _ _ _ _ _ _ _ _ _ _ _ _ _ _ _ _ _ _ _ _ _ _ _ _ P L w h hf h1 h2 hP hl2 hL hd rfl rfl rfl
    · exact ins_d1 _ _ _ _ _ _ _ _ _ _ _ _ _ _ _ _ _ _ _ _ _ _ _ _ _ _ _ P L w h hf h1 h2 hP hl2 hL hd rfl rfl rfl
  · exact ins_kind _ _ _ _ _ _ _ _ _ _ _ _ _ _ _ _ _ _ _ _ _ _ _ _ P L w h
end Go.Proofs.YtdjamkinijhjoaaDoor
