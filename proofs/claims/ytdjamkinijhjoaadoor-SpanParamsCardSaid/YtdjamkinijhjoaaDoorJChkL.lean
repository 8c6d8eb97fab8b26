/-
  The contract of the checker's ins: what is wrong with an instruction.
  The contract of the checker's ins, for an instruction that has a Dst.
  The contract of the checker's ins, of every instruction.
  Plain: which blocks lead to which, as lists.
  Plain: a table of rows that grow by append, in a world.
-/
import Derived.WalkKit
import Derived.WalkSpells
import Derived.WalkLawsBesides
import Derived.Test.YtdjamkinijhjoaaDoorJChkG
import Derived.Test.YtdjamkinijhjoaaDoorJDatD
import Derived.Deep.OwnRows
import Derived.OwnWalk
namespace Go.Proofs.YtdjamkinijhjoaaDoor
open Go.RowKit

def shD (op : Int) : Bool := decide (1 ≤ op ∧ op ≤ 22 ∧ op ≠ 19 ∧ op ≠ 22)
def shA (op : Int) : Bool := decide (1 ≤ op ∧ op ≤ 22 ∧ op ≠ 20 ∧ op ≠ 21)
def shB (op : Int) : Bool := decide ((2 ≤ op ∧ op ≤ 15) ∨ op = 19)

set_option maxHeartbeats 1000000 in
theorem shapes_any (op : Int) (w : World) (h : 1 ≤ op ∧ op ≤ 22) :
    Calls Tryd.prog 86 #[.int .i64 op] w fun e w' => e = .returned (.agg #[.bool (shD op), .bool (shA op), .bool (shB op)]) ∧ w' = w.alloc (.cells #[.bool (shD op), .bool (shA op), .bool (shB op)] 154) := by
  obtain hc | hc : (2 ≤ op ∧ op ≤ 15) ∨ (op = 1 ∨ op = 16 ∨ op = 17 ∨ op = 18 ∨ op = 19 ∨ op = 20 ∨ op = 21 ∨ op = 22) := by omega
  · have hD : shD op = true := by simp [shD]; omega
    have hA : shA op = true := by simp [shA]; omega
    have hB : shB op = true := by simp [shB]; omega
    rw [hD, hA, hB]
    have h1 : (op == 1) = false := by rw [beq_eq_false_iff_ne]; omega
    have h2 : (op == 16) = false := by rw [beq_eq_false_iff_ne]; omega
    have h3 : (op == 17) = false := by rw [beq_eq_false_iff_ne]; omega
    have h4 : (op == 18) = false := by rw [beq_eq_false_iff_ne]; omega
    go_enter Tryd.func86, Tryd.ntmps86
    go_wp2
    all_goals (refine bodyPost_ret ?_ rfl ⟨rfl, rfl⟩; simp [results, Tryd.results86, go_sem])
  · rcases hc with rfl | rfl | rfl | rfl | rfl | rfl | rfl | rfl
    all_goals
      go_enter Tryd.func86, Tryd.ntmps86
      go_wp2
      (refine bodyPost_ret ?_ rfl ⟨rfl, rfl⟩; simp [results, Tryd.results86, go_sem, shD, shA, shB])

def insE (regs : Int) (nf : Nat) (P : Nat → Int) (op dst an bn fn : Int) (ar br : Bool) (L : List (Bool × Int)) : Int :=
  if ¬(1 ≤ op ∧ op ≤ 22) then 4
  else if (shD op = false ∧ dst ≠ -1) ∨ (shA op = false ∧ ¬(ar = false ∧ an = 0)) ∨ (shB op = false ∧ ¬(br = false ∧ bn = 0)) ∨ (op ≠ 20 ∧ (fn ≠ 0 ∨ 0 < L.length)) then 5
  else if shD op = true ∧ ¬(op = 20 ∧ dst = -1) ∧ dstE regs dst ≠ 0 then dstE regs dst
  else firstE [valE regs ar an, valE regs br bn, callE regs nf P (op == 20) fn L]

set_option maxRecDepth 100000 in
set_option maxHeartbeats 1000000 in
theorem ins_kind (g1 f1 b1 a1 p : Option Addr) (g2 g3 f2 f3 b2 b3 a2 a3 c : Nat) (nm : ByteArray) (params regs op dst an bn fn : Int) (ar br : Bool) (P : Nat → Int) (L : List (Bool × Int)) (w : World) (h : ¬(1 ≤ op ∧ op ≤ 22)) :
    Calls Tryd.prog 72 #[.agg #[.slice g1 g2 g3, .slice f1 f2 f3, .string nm, .int .i64 params, .int .i64 regs, .slice b1 b2 b3, .slice a1 a2 a3], .agg #[.int .i64 op, .int .i64 dst, .bool ar, .int .i64 an, .bool br, .int .i64 bn, .int .i64 fn, .slice p L.length c]] w fun e w' => e = .returned (.int .i64 (insE regs f2 P op dst an bn fn ar br L)) ∧ Below w.heap.size w w' := by
  have hw : wthn op 1 22 = false := by simp only [wthn, decide_eq_false_iff_not]; exact h
  have HV : Hid (insE regs f2 P op dst an bn fn ar br L = 4) := by show _ = _; unfold insE; rw [if_pos h]
  clear h
  go_enter Tryd.func72, Tryd.ntmps72
  go_wp2_with (go_at_call 34; refine (within_any _ _ _ _).mono ?_; rintro e w1 ⟨rfl, rfl⟩)
  go_ret
  refine ⟨by rw [HV.out]; rfl, ?_⟩
  repeat (first | with_reducible exact Below.refl _ _ | with_reducible exact HB3.out | with_reducible refine Below.drew ?_ | with_reducible refine below_drewN ?_ _ | with_reducible refine Below.setCell ?_ ?_ _ | with_reducible refine Below.alloc ?_ ?_ _ | with_reducible exact HB2.out | with_reducible exact HB1.out | with_reducible refine Below.trans ?_ (Below.mono hb3 ?_) | with_reducible refine Below.trans ?_ (Below.mono hb5 ?_) | with_reducible refine Below.trans ?_ (Below.mono hb4 ?_) | omega | (simp; omega) | simp)

theorem insE_1 {regs : Int} {nf : Nat} {P : Nat → Int} {op dst an bn fn : Int} {ar br : Bool} {L : List (Bool × Int)} (h : 1 ≤ op ∧ op ≤ 22)
    (g : (shD op = false ∧ dst ≠ -1) ∨ (shA op = false ∧ ¬(ar = false ∧ an = 0)) ∨ (shB op = false ∧ ¬(br = false ∧ bn = 0)) ∨ (op ≠ 20 ∧ (fn ≠ 0 ∨ 0 < L.length))) : insE regs nf P op dst an bn fn ar br L = 5 := by
  unfold insE; rw [if_neg (fun x => x h), if_pos g]
theorem insE_2 {regs : Int} {nf : Nat} {P : Nat → Int} {op dst an bn fn : Int} {ar br : Bool} {L : List (Bool × Int)} (h : 1 ≤ op ∧ op ≤ 22)
    (gd : shD op = true ∨ dst = -1) (ga : shA op = true ∨ (¬ar = true ∧ an = 0)) (gb : shB op = true ∨ (¬br = true ∧ bn = 0)) (gf : (!op == 20) = false ∨ (fn = 0 ∧ ¬0 < L.length)) :
    insE regs nf P op dst an bn fn ar br L = if shD op = true ∧ ¬(op = 20 ∧ dst = -1) ∧ dstE regs dst ≠ 0 then dstE regs dst else firstE [valE regs ar an, valE regs br bn, callE regs nf P (op == 20) fn L] := by
  unfold insE
  rw [if_neg (fun x => x h), if_neg]
  rintro (⟨x, y⟩ | ⟨x, y⟩ | ⟨x, y⟩ | ⟨x, y⟩)
  · rcases gd with g | g
    · rw [x] at g; cases g
    · exact y g
  · rcases ga with g | ⟨g, k⟩
    · rw [x] at g; cases g
    · exact y ⟨by simpa using g, k⟩
  · rcases gb with g | ⟨g, k⟩
    · rw [x] at g; cases g
    · exact y ⟨by simpa using g, k⟩
  · rcases gf with g | ⟨g, k⟩
    · simp at g; exact x g
    · rcases y with y | y
      · exact y g
      · exact k y

set_option maxRecDepth 100000 in
set_option maxHeartbeats 1000000 in
theorem ins_d0 (g1 f1 b1 a1 p : Option Addr) (g2 g3 f2 f3 b2 b3 a2 a3 c : Nat) (nm : ByteArray) (params regs op dst an bn fn : Int) (ar br d a b : Bool) (P : Nat → Int) (L : List (Bool × Int)) (w : World) (h : 1 ≤ op ∧ op ≤ 22)
    (hf : f2 ≤ 9223372036854775807) (h1 : 0 ≤ regs) (h2 : regs ≤ 9223372036854775807)
    (hP : f2 = 0 ∨ ∃ fb fo, f1 = some ⟨fb, fo, none⟩ ∧ ∀ i, i < f2 → w.cell? ⟨fb, fo + i * 4 + 1, none⟩ = some (.int .i64 (P i))) (hl2 : L.length ≤ 9223372036854775807) (hL : SliceAt w 2 ValR p L)
    (hd : shD op = d) (ha : shA op = a) (hb : shB op = b) (hd0 : d = false) :
    Calls Tryd.prog 72 #[.agg #[.slice g1 g2 g3, .slice f1 f2 f3, .string nm, .int .i64 params, .int .i64 regs, .slice b1 b2 b3, .slice a1 a2 a3], .agg #[.int .i64 op, .int .i64 dst, .bool ar, .int .i64 an, .bool br, .int .i64 bn, .int .i64 fn, .slice p L.length c]] w fun e w' => e = .returned (.int .i64 (insE regs f2 P op dst an bn fn ar br L)) ∧ Below w.heap.size w w' := by
  have hw : wthn op 1 22 = true := by simp only [wthn, decide_eq_true_eq]; exact h
  have hs := fun w => shapes_any op w h
  have E1 : Hid (¬dst = -1 → insE regs f2 P op dst an bn fn ar br L = 5) := fun x => insE_1 h (.inl ⟨hd.trans hd0, x⟩)
  have E2 : Hid (¬a = true → ar = true → insE regs f2 P op dst an bn fn ar br L = 5) := fun x y => insE_1 h (.inr (.inl ⟨by rw [ha]; simpa using x, by rw [y]; simp⟩))
  have E3 : Hid (¬a = true → ¬an = 0 → insE regs f2 P op dst an bn fn ar br L = 5) := fun x y => insE_1 h (.inr (.inl ⟨by rw [ha]; simpa using x, fun z => y z.2⟩))
  have E4 : Hid (¬b = true → br = true → insE regs f2 P op dst an bn fn ar br L = 5) := fun x y => insE_1 h (.inr (.inr (.inl ⟨by rw [hb]; simpa using x, by rw [y]; simp⟩)))
  have E5 : Hid (¬b = true → ¬bn = 0 → insE regs f2 P op dst an bn fn ar br L = 5) := fun x y => insE_1 h (.inr (.inr (.inl ⟨by rw [hb]; simpa using x, fun z => y z.2⟩)))
  have E6 : Hid ((!op == 20) = true → ¬fn = 0 → insE regs f2 P op dst an bn fn ar br L = 5) := fun x y => insE_1 h (.inr (.inr (.inr ⟨by simpa using x, .inl y⟩)))
  have E7 : Hid (((!op == 20) = true ∧ 0 < L.length) → insE regs f2 P op dst an bn fn ar br L = 5) := fun x => insE_1 h (.inr (.inr (.inr ⟨by simpa using x.1, .inr x.2⟩)))
  have E8 : Hid (dst = -1 → (a = true ∨ (¬ar = true ∧ an = 0)) → (b = true ∨ (¬br = true ∧ bn = 0)) → ((!op == 20) = false ∨ (fn = 0 ∧ ¬0 < L.length)) → insE regs f2 P op dst an bn fn ar br L = firstE [valE regs ar an, valE regs br bn, callE regs f2 P (op == 20) fn L]) := fun x y z u => by
    rw [insE_2 h (.inr x) (by rw [ha]; exact y) (by rw [hb]; exact z) u, if_neg]
    rw [hd, hd0]; simp
  rw [hd, ha, hb] at hs
  have HS : Hid (∀ w, Calls Tryd.prog 86 #[.int .i64 op] w fun e w' => e = .returned (.agg #[.bool d, .bool a, .bool b]) ∧ w' = w.alloc (.cells #[.bool d, .bool a, .bool b] 154)) := hs
  have HP : Hid (f2 = 0 ∨ ∃ fb fo, f1 = some ⟨fb, fo, none⟩ ∧ ∀ i, i < f2 → w.cell? ⟨fb, fo + i * 4 + 1, none⟩ = some (.int .i64 (P i))) := hP
  have HL : Hid (SliceAt w 2 ValR p L) := hL
  subst hd0
  generalize hl : L.length = l at *
  have HZ : Hid (L.length = l) := hl
  clear hs hd ha hb h hP hL hl
  go_enter Tryd.func72, Tryd.ntmps72
  go_wp2_with (first | (go_at_call 34; refine (within_any _ _ _ _).mono ?_; rintro e w1 ⟨rfl, rfl⟩) | (go_at_call 86; refine (HS.out _).mono ?_; rintro e w1 ⟨rfl, rfl⟩))
  all_goals first
    | (go_ret; (have hE : insE regs f2 P op dst an bn fn ar br L = 5 := by first | exact E1.out ‹¬dst = -1› | exact E2.out ‹¬a = true› ‹ar = true› | exact E3.out ‹¬a = true› ‹¬an = 0› | exact E4.out ‹¬b = true› ‹br = true› | exact E5.out ‹¬b = true› ‹¬bn = 0› | exact E6.out ‹(!op == 20) = true› ‹¬fn = 0› | exact E7.out ‹(!op == 20) = true ∧ 0 < l›); refine ⟨by rw [hE]; rfl, ?_⟩; repeat (first | with_reducible exact Below.refl _ _ | with_reducible exact HB3.out | with_reducible refine Below.drew ?_ | with_reducible refine below_drewN ?_ _ | with_reducible refine Below.setCell ?_ ?_ _ | with_reducible refine Below.alloc ?_ ?_ _ | with_reducible exact HB2.out | with_reducible exact HB1.out | with_reducible refine Below.trans ?_ (Below.mono hb3 ?_) | with_reducible refine Below.trans ?_ (Below.mono hb5 ?_) | with_reducible refine Below.trans ?_ (Below.mono hb4 ?_) | omega | (simp; omega) | simp))
    | skip
  all_goals
    have hE : insE regs f2 P op dst an bn fn ar br L = firstE [valE regs ar an, valE regs br bn, callE regs f2 P (op == 20) fn L] := by
      refine E8.out ‹dst = -1› ?_ ?_ ?_
      · first | exact .inl ‹a = true› | exact .inr ⟨‹¬ar = true›, ‹an = 0›⟩
      · first | exact .inl ‹b = true› | exact .inr ⟨‹¬br = true›, ‹bn = 0›⟩
      · first | exact .inl ‹(!op == 20) = false› | (refine .inl ?_; have g := ‹op = 20›; simp [g]; done) | exact .inr ⟨‹fn = 0›, ‹¬0 < l›⟩ | (rcases ‹(!op == 20) = false ∨ ¬0 < l› with g | g; (exact .inl g); exact .inr ⟨‹fn = 0›, g⟩)
    clear E1 E2 E3 E4 E5 E6 E7 E8 HS
    (have g := HZ.out; subst g)
    generalize hv : firstE [valE regs ar an, valE regs br bn, callE regs f2 P (op == 20) fn L] = v at hE
    have HVV : Hid (firstE [valE regs ar an, valE regs br bn, callE regs f2 P (op == 20) fn L] = v) := hv
    clear hv
    refine (first_any _ _ _ ⟨w.heap.size, 0, none⟩ ⟨w.heap.size + 1, 0, none⟩ ⟨w.heap.size + 1 + 1 + 1 + 1, 0, none⟩ _ _ _ _ ?g0 ?g1 ?g2 (ins1_asks (g1 := g1) (g2 := g2) (g3 := g3) (f1 := f1) (f2 := f2) (f3 := f3) (nm := nm) (params := params) (regs := regs) (b1 := b1) (b2 := b2) (b3 := b3) (a1 := a1) (a2 := a2) (a3 := a3) (op := op) (dst := dst) (an := an) (bn := bn) (fn := fn) (ar := ar) (br := br) (p := p) (c := c) (l := L.length) ?hB ?hX h1 h2) (ins2_asks ?hB ?hX h1 h2) (ins3_asks (call := op == 20) P L ?hB ?hX ?hC hf h1 h2 ?hP hl2 ?hL)).mono ?fin
    case g0 => exact ((blk (heap_at (by simp))).1 0).trans rfl
    case g1 => exact ((blk (heap_at (by simp))).1 1).trans rfl
    case g2 => exact ((blk (heap_at (by simp))).1 2).trans rfl
    case hB => (repeat (first | exact heap_at (by simp) | refine heap_step ?_))
    case hX =>
      (try (have g := ‹dst = -1›; subst g))
      (try (have g := ‹an = 0›; subst g))
      (try (have g := ‹bn = 0›; subst g))
      (try (have g := ‹fn = 0›; subst g))
      (try (have g := ‹op = 20›; subst g))
      (try (have g := Bool.eq_false_iff.2 ‹¬ar = true›; subst g))
      (try (have g := Bool.eq_false_iff.2 ‹¬br = true›; subst g))
      repeat (first | exact heap_at (by simp) | refine heap_step ?_)
    case hC =>
      refine Eq.trans ((blk (heap_step (heap_at (by simp)))).1 0) ?_
      first | rfl | (have g := ‹op = 20›; subst g; rfl) | (have g := ‹(!op == 20) = false›; simp only [Bool.not_eq_false'] at g; rw [g]; rfl) | (have g := ‹(!op == 20) = true›; simp only [Bool.not_eq_true'] at g; rw [g]; rfl)
    case hL => exact HL.out.to (by decide) (by repeat (first | with_reducible exact Below.refl _ _ | with_reducible exact HB3.out | with_reducible refine Below.drew ?_ | with_reducible refine below_drewN ?_ _ | with_reducible refine Below.setCell ?_ ?_ _ | with_reducible refine Below.alloc ?_ ?_ _ | with_reducible exact HB2.out | with_reducible exact HB1.out | with_reducible refine Below.trans ?_ (Below.mono hb3 ?_) | with_reducible refine Below.trans ?_ (Below.mono hb5 ?_) | with_reducible refine Below.trans ?_ (Below.mono hb4 ?_) | omega | (simp; omega) | simp)) (fun _ _ _ h => h)
    case hP =>
      rcases HP.out with g | ⟨fb, fo, g, k⟩
      · exact .inl g
      · refine .inr ⟨fb, fo, g, fun i hi => ?_⟩
        refine Eq.trans (Below.cell (B := w.heap.size) (w := w) ?_ (p := ⟨fb, fo + i * 4 + 1, none⟩) (lt_of_cell (k i hi))) (k i hi)
        repeat (first | with_reducible exact Below.refl _ _ | with_reducible exact HB3.out | with_reducible refine Below.drew ?_ | with_reducible refine below_drewN ?_ _ | with_reducible refine Below.setCell ?_ ?_ _ | with_reducible refine Below.alloc ?_ ?_ _ | with_reducible exact HB2.out | with_reducible exact HB1.out | with_reducible refine Below.trans ?_ (Below.mono hb3 ?_) | with_reducible refine Below.trans ?_ (Below.mono hb5 ?_) | with_reducible refine Below.trans ?_ (Below.mono hb4 ?_) | omega | (simp; omega) | simp)
    case fin =>
      rintro e w4 ⟨rfl, hb4⟩
      rw [HVV.out]
      go_wp2
      go_ret
      refine ⟨by rw [hE]; rfl, ?_⟩
      repeat (first | with_reducible exact Below.refl _ _ | with_reducible exact HB3.out | with_reducible refine Below.drew ?_ | with_reducible refine below_drewN ?_ _ | with_reducible refine Below.setCell ?_ ?_ _ | with_reducible refine Below.alloc ?_ ?_ _ | with_reducible exact HB2.out | with_reducible exact HB1.out | with_reducible refine Below.trans ?_ (Below.mono hb3 ?_) | with_reducible refine Below.trans ?_ (Below.mono hb5 ?_) | with_reducible refine Below.trans ?_ (Below.mono hb4 ?_) | omega | (simp; omega) | simp)
end Go.Proofs.YtdjamkinijhjoaaDoor
namespace Go.Proofs.YtdjamkinijhjoaaDoor
open Go.RowKit

set_option maxRecDepth 100000 in
set_option maxHeartbeats 1000000 in
theorem ins_d1 (g1 f1 b1 a1 p : Option Addr) (g2 g3 f2 f3 b2 b3 a2 a3 c : Nat) (nm : ByteArray) (params regs op dst an bn fn : Int) (ar br d a b : Bool) (P : Nat → Int) (L : List (Bool × Int)) (w : World) (h : 1 ≤ op ∧ op ≤ 22)
    (hf : f2 ≤ 9223372036854775807) (h1 : 0 ≤ regs) (h2 : regs ≤ 9223372036854775807)
    (hP : f2 = 0 ∨ ∃ fb fo, f1 = some ⟨fb, fo, none⟩ ∧ ∀ i, i < f2 → w.cell? ⟨fb, fo + i * 4 + 1, none⟩ = some (.int .i64 (P i))) (hl2 : L.length ≤ 9223372036854775807) (hL : SliceAt w 2 ValR p L)
    (hd : shD op = d) (ha : shA op = a) (hb : shB op = b) (hd0 : d = true) :
    Calls Tryd.prog 72 #[.agg #[.slice g1 g2 g3, .slice f1 f2 f3, .string nm, .int .i64 params, .int .i64 regs, .slice b1 b2 b3, .slice a1 a2 a3], .agg #[.int .i64 op, .int .i64 dst, .bool ar, .int .i64 an, .bool br, .int .i64 bn, .int .i64 fn, .slice p L.length c]] w fun e w' => e = .returned (.int .i64 (insE regs f2 P op dst an bn fn ar br L)) ∧ Below w.heap.size w w' := by
  have hw : wthn op 1 22 = true := by simp only [wthn, decide_eq_true_eq]; exact h
  have hs := fun w => shapes_any op w h
  have E2 : Hid (¬a = true → ar = true → insE regs f2 P op dst an bn fn ar br L = 5) := fun x y => insE_1 h (.inr (.inl ⟨by rw [ha]; simpa using x, by rw [y]; simp⟩))
  have E3 : Hid (¬a = true → ¬an = 0 → insE regs f2 P op dst an bn fn ar br L = 5) := fun x y => insE_1 h (.inr (.inl ⟨by rw [ha]; simpa using x, fun z => y z.2⟩))
  have E4 : Hid (¬b = true → br = true → insE regs f2 P op dst an bn fn ar br L = 5) := fun x y => insE_1 h (.inr (.inr (.inl ⟨by rw [hb]; simpa using x, by rw [y]; simp⟩)))
  have E5 : Hid (¬b = true → ¬bn = 0 → insE regs f2 P op dst an bn fn ar br L = 5) := fun x y => insE_1 h (.inr (.inr (.inl ⟨by rw [hb]; simpa using x, fun z => y z.2⟩)))
  have E6 : Hid ((!op == 20) = true → ¬fn = 0 → insE regs f2 P op dst an bn fn ar br L = 5) := fun x y => insE_1 h (.inr (.inr (.inr ⟨by simpa using x, .inl y⟩)))
  have E7 : Hid (((!op == 20) = true ∧ 0 < L.length) → insE regs f2 P op dst an bn fn ar br L = 5) := fun x => insE_1 h (.inr (.inr (.inr ⟨by simpa using x.1, .inr x.2⟩)))
  have E8 : Hid ((a = true ∨ (¬ar = true ∧ an = 0)) → (b = true ∨ (¬br = true ∧ bn = 0)) → ((!op == 20) = false ∨ (fn = 0 ∧ ¬0 < L.length)) → insE regs f2 P op dst an bn fn ar br L = if ¬(op = 20 ∧ dst = -1) ∧ dstE regs dst ≠ 0 then dstE regs dst else firstE [valE regs ar an, valE regs br bn, callE regs f2 P (op == 20) fn L]) := fun y z u => by
    rw [insE_2 h (.inl (hd.trans hd0)) (by rw [ha]; exact y) (by rw [hb]; exact z) u]
    simp [hd, hd0]
  rw [hd, ha, hb] at hs
  have HS : Hid (∀ w, Calls Tryd.prog 86 #[.int .i64 op] w fun e w' => e = .returned (.agg #[.bool d, .bool a, .bool b]) ∧ w' = w.alloc (.cells #[.bool d, .bool a, .bool b] 154)) := hs
  have HP : Hid (f2 = 0 ∨ ∃ fb fo, f1 = some ⟨fb, fo, none⟩ ∧ ∀ i, i < f2 → w.cell? ⟨fb, fo + i * 4 + 1, none⟩ = some (.int .i64 (P i))) := hP
  have HL : Hid (SliceAt w 2 ValR p L) := hL
  subst hd0
  generalize hl : L.length = l at *
  have HZ : Hid (L.length = l) := hl
  clear hs hd ha hb h hP hL hl
  go_enter Tryd.func72, Tryd.ntmps72
  go_wp2_with (first | (go_at_call 34; refine (within_any _ _ _ _).mono ?_; rintro e w1 ⟨rfl, rfl⟩) | (go_at_call 86; refine (HS.out _).mono ?_; rintro e w1 ⟨rfl, rfl⟩) | (go_at_call 115; refine (dst_any _ _ _ _ _ _ _ _ _ _ _ _ _ _ _ _ _ h1 h2).mono ?_; rintro e w3 ⟨rfl, hb3⟩; have hz3 := hb3.size; simp at hz3))
  all_goals first
    | (go_ret; (have hE : insE regs f2 P op dst an bn fn ar br L = 5 := by first | exact E2.out ‹¬a = true› ‹ar = true› | exact E3.out ‹¬a = true› ‹¬an = 0› | exact E4.out ‹¬b = true› ‹br = true› | exact E5.out ‹¬b = true› ‹¬bn = 0› | exact E6.out ‹(!op == 20) = true› ‹¬fn = 0› | exact E7.out ‹(!op == 20) = true ∧ 0 < l›); refine ⟨by rw [hE]; rfl, ?_⟩; repeat (first | with_reducible exact Below.refl _ _ | with_reducible exact HB3.out | with_reducible refine Below.drew ?_ | with_reducible refine below_drewN ?_ _ | with_reducible refine Below.setCell ?_ ?_ _ | with_reducible refine Below.alloc ?_ ?_ _ | with_reducible exact HB2.out | with_reducible exact HB1.out | with_reducible refine Below.trans ?_ (Below.mono hb3 ?_) | with_reducible refine Below.trans ?_ (Below.mono hb5 ?_) | with_reducible refine Below.trans ?_ (Below.mono hb4 ?_) | omega | (simp; omega) | simp))
    | skip
  all_goals try
    have hED : insE regs f2 P op dst an bn fn ar br L = dstE regs dst := by
      have gd := ‹(dstE regs dst != 0) = true›
      refine (E8.out ?_ ?_ ?_).trans (if_pos ⟨?_, by simpa using gd⟩)
      · first | exact .inl ‹a = true› | exact .inr ⟨‹¬ar = true›, ‹an = 0›⟩
      · first | exact .inl ‹b = true› | exact .inr ⟨‹¬br = true›, ‹bn = 0›⟩
      · first | exact .inl ‹(!op == 20) = false› | (refine .inl ?_; have g := ‹op = 20›; simp [g]; done) | exact .inr ⟨‹fn = 0›, ‹¬0 < l›⟩ | (rcases ‹(!op == 20) = false ∨ ¬0 < l› with g | g; (exact .inl g); exact .inr ⟨‹fn = 0›, g⟩)
      · first | exact fun g => ‹¬op = 20› g.1 | (have g := ‹(!dst == -1) = true›; simp at g; exact fun h => g h.2)
    go_ret
    refine ⟨by rw [hED]; rfl, ?_⟩
    repeat (first | with_reducible exact Below.refl _ _ | with_reducible exact HB3.out | with_reducible refine Below.drew ?_ | with_reducible refine below_drewN ?_ _ | with_reducible refine Below.setCell ?_ ?_ _ | with_reducible refine Below.alloc ?_ ?_ _ | with_reducible exact HB2.out | with_reducible exact HB1.out | with_reducible refine Below.trans ?_ (Below.mono hb3 ?_) | with_reducible refine Below.trans ?_ (Below.mono hb5 ?_) | with_reducible refine Below.trans ?_ (Below.mono hb4 ?_) | omega | (simp; omega) | simp)
    done
  all_goals
    have hE : insE regs f2 P op dst an bn fn ar br L = firstE [valE regs ar an, valE regs br bn, callE regs f2 P (op == 20) fn L] := by
      refine (E8.out ?_ ?_ ?_).trans (if_neg ?_)
      · first | exact .inl ‹a = true› | exact .inr ⟨‹¬ar = true›, ‹an = 0›⟩
      · first | exact .inl ‹b = true› | exact .inr ⟨‹¬br = true›, ‹bn = 0›⟩
      · first | exact .inl ‹(!op == 20) = false› | (refine .inl ?_; have g := ‹op = 20›; simp [g]; done) | exact .inr ⟨‹fn = 0›, ‹¬0 < l›⟩ | (rcases ‹(!op == 20) = false ∨ ¬0 < l› with g | g; (exact .inl g); exact .inr ⟨‹fn = 0›, g⟩)
      · first | (have gd := ‹(dstE regs dst != 0) = false›; exact fun g => g.2 (by simpa using gd)) | (have gd := ‹(!dst == -1) = false›; exact fun g => g.1 ⟨‹op = 20›, by simpa using gd⟩)
    clear E2 E3 E4 E5 E6 E7 E8 HS
    (have g := HZ.out; subst g)
    generalize hv : firstE [valE regs ar an, valE regs br bn, callE regs f2 P (op == 20) fn L] = v at hE
    have HVV : Hid (firstE [valE regs ar an, valE regs br bn, callE regs f2 P (op == 20) fn L] = v) := hv
    clear hv
    refine (first_any _ _ _ ⟨w.heap.size, 0, none⟩ ⟨w.heap.size + 1, 0, none⟩ ⟨w.heap.size + 1 + 1 + 1 + 1, 0, none⟩ _ _ _ _ ?g0 ?g1 ?g2 (ins1_asks (g1 := g1) (g2 := g2) (g3 := g3) (f1 := f1) (f2 := f2) (f3 := f3) (nm := nm) (params := params) (regs := regs) (b1 := b1) (b2 := b2) (b3 := b3) (a1 := a1) (a2 := a2) (a3 := a3) (op := op) (dst := dst) (an := an) (bn := bn) (fn := fn) (ar := ar) (br := br) (p := p) (c := c) (l := L.length) ?hB ?hX h1 h2) (ins2_asks ?hB ?hX h1 h2) (ins3_asks (call := op == 20) P L ?hB ?hX ?hC hf h1 h2 ?hP hl2 ?hL)).mono ?fin
    case g0 => exact ((blk (heap_at (by simp))).1 0).trans rfl
    case g1 => exact ((blk (heap_at (by simp))).1 1).trans rfl
    case g2 => exact ((blk (heap_at (by simp))).1 2).trans rfl
    case hB => (repeat (first | exact heap_at (by simp) | refine heap_below hb3 (by first | (simp; done) | (simp; omega)) ?_ | refine heap_step ?_))
    case hX =>
      (try (have g := ‹(!dst == -1) = false›; simp only [Bool.not_eq_false', beq_iff_eq] at g; subst g))
      (try (have g := ‹an = 0›; subst g))
      (try (have g := ‹bn = 0›; subst g))
      (try (have g := ‹fn = 0›; subst g))
      (try (have g := ‹op = 20›; subst g))
      (try (have g := Bool.eq_false_iff.2 ‹¬ar = true›; subst g))
      (try (have g := Bool.eq_false_iff.2 ‹¬br = true›; subst g))
      repeat (first | exact heap_at (by simp) | refine heap_below hb3 (by first | (simp; done) | (simp; omega)) ?_ | refine heap_step ?_)
    case hC =>
      first | refine Eq.trans ((blk (heap_step (heap_below hb3 (by first | (simp; done) | (simp; omega)) (heap_at (by simp))))).1 0) ?_ | refine Eq.trans ((blk (heap_step (heap_at (by simp)))).1 0) ?_
      first | rfl | (have g := ‹op = 20›; subst g; rfl) | (have g := ‹(!op == 20) = false›; simp only [Bool.not_eq_false'] at g; rw [g]; rfl) | (have g := ‹(!op == 20) = true›; simp only [Bool.not_eq_true'] at g; rw [g]; rfl)
    case hL => exact HL.out.to (by decide) (by repeat (first | with_reducible exact Below.refl _ _ | with_reducible exact HB3.out | with_reducible refine Below.drew ?_ | with_reducible refine below_drewN ?_ _ | with_reducible refine Below.setCell ?_ ?_ _ | with_reducible refine Below.alloc ?_ ?_ _ | with_reducible exact HB2.out | with_reducible exact HB1.out | with_reducible refine Below.trans ?_ (Below.mono hb3 ?_) | with_reducible refine Below.trans ?_ (Below.mono hb5 ?_) | with_reducible refine Below.trans ?_ (Below.mono hb4 ?_) | omega | (simp; omega) | simp)) (fun _ _ _ h => h)
    case hP =>
      rcases HP.out with g | ⟨fb, fo, g, k⟩
      · exact .inl g
      · refine .inr ⟨fb, fo, g, fun i hi => ?_⟩
        refine Eq.trans (Below.cell (B := w.heap.size) (w := w) ?_ (p := ⟨fb, fo + i * 4 + 1, none⟩) (lt_of_cell (k i hi))) (k i hi)
        repeat (first | with_reducible exact Below.refl _ _ | with_reducible exact HB3.out | with_reducible refine Below.drew ?_ | with_reducible refine below_drewN ?_ _ | with_reducible refine Below.setCell ?_ ?_ _ | with_reducible refine Below.alloc ?_ ?_ _ | with_reducible exact HB2.out | with_reducible exact HB1.out | with_reducible refine Below.trans ?_ (Below.mono hb3 ?_) | with_reducible refine Below.trans ?_ (Below.mono hb5 ?_) | with_reducible refine Below.trans ?_ (Below.mono hb4 ?_) | omega | (simp; omega) | simp)
    case fin =>
      rintro e w4 ⟨rfl, hb4⟩
      rw [HVV.out]
      go_wp2
      go_ret
      refine ⟨by rw [hE]; rfl, ?_⟩
      repeat (first | with_reducible exact Below.refl _ _ | with_reducible exact HB3.out | with_reducible refine Below.drew ?_ | with_reducible refine below_drewN ?_ _ | with_reducible refine Below.setCell ?_ ?_ _ | with_reducible refine Below.alloc ?_ ?_ _ | with_reducible exact HB2.out | with_reducible exact HB1.out | with_reducible refine Below.trans ?_ (Below.mono hb3 ?_) | with_reducible refine Below.trans ?_ (Below.mono hb5 ?_) | with_reducible refine Below.trans ?_ (Below.mono hb4 ?_) | omega | (simp; omega) | simp)
end Go.Proofs.YtdjamkinijhjoaaDoor
namespace Go.Proofs.YtdjamkinijhjoaaDoor
open Go.RowKit

theorem ins_any (g1 f1 b1 a1 p : Option Addr) (g2 g3 f2 f3 b2 b3 a2 a3 c : Nat) (nm : ByteArray) (params regs op dst an bn fn : Int) (ar br : Bool) (P : Nat → Int) (L : List (Bool × Int)) (w : World)
    (hf : f2 ≤ 9223372036854775807) (h1 : 0 ≤ regs) (h2 : regs ≤ 9223372036854775807)
    (hP : f2 = 0 ∨ ∃ fb fo, f1 = some ⟨fb, fo, none⟩ ∧ ∀ i, i < f2 → w.cell? ⟨fb, fo + i * 4 + 1, none⟩ = some (.int .i64 (P i))) (hl2 : L.length ≤ 9223372036854775807) (hL : SliceAt w 2 ValR p L) :
    Calls Tryd.prog 72 #[.agg #[.slice g1 g2 g3, .slice f1 f2 f3, .string nm, .int .i64 params, .int .i64 regs, .slice b1 b2 b3, .slice a1 a2 a3], .agg #[.int .i64 op, .int .i64 dst, .bool ar, .int .i64 an, .bool br, .int .i64 bn, .int .i64 fn, .slice p L.length c]] w fun e w' => e = .returned (.int .i64 (insE regs f2 P op dst an bn fn ar br L)) ∧ Below w.heap.size w w' := by
  by_cases h : 1 ≤ op ∧ op ≤ 22
  · cases hd : shD op
    · exact ins_d0 _ _ _ _ _ _ _ _ _ _ _ _ _ _ _ _ _ _ _ _ _ _ _ _ _ _ _ P L w h hf h1 h2 hP hl2 hL hd rfl rfl rfl
    · exact ins_d1 _ _ _ _ _ _ _ _ _ _ _ _ _ _ _ _ _ _ _ _ _ _ _ _ _ _ _ P L w h hf h1 h2 hP hl2 hL hd rfl rfl rfl
  · exact ins_kind _ _ _ _ _ _ _ _ _ _ _ _ _ _ _ _ _ _ _ _ _ _ _ _ P L w h
end Go.Proofs.YtdjamkinijhjoaaDoor
namespace Go.Proofs.YtdjamkinijhjoaaDoor
open Go.RowKit



/-- the ways between blocks, in the order of the text: (to, from) -/
def waysOf (T : List (List Int)) : Nat → List (Nat × Nat)
  | 0 => []
  | i + 1 => waysOf T i ++ (T.getD i []).map fun t => (t.toNat, i)
/-- the blocks that lead to t -/
def rowOf (ps : List (Nat × Nat)) (t : Nat) : List Nat := (ps.filter (·.1 == t)).map (·.2)

theorem rowOf_same (ps : List (Nat × Nat)) (t i : Nat) : rowOf (ps ++ [(t, i)]) t = rowOf ps t ++ [i] := by
  simp [rowOf, List.filter_append]
theorem rowOf_other (ps : List (Nat × Nat)) {t u : Nat} (i : Nat) (h : u ≠ t) : rowOf (ps ++ [(t, i)]) u = rowOf ps u := by
  have h2 : (t == u) = false := by simp; omega
  simp [rowOf, List.filter_append, h2]
theorem rowOf_le (ps : List (Nat × Nat)) (t : Nat) : (rowOf ps t).length ≤ ps.length := by
  unfold rowOf; rw [List.length_map]; exact List.length_filter_le _ _
theorem waysOf_le (T : List (List Int)) (k n : Nat) (hk : k ≤ n) (h : ∀ i, i < n → (T.getD i []).length ≤ 2) : (waysOf T k).length ≤ 2 * k := by
  induction k with
  | zero => simp [waysOf]
  | succ k ih =>
    have := ih (by omega)
    have := h k (by omega)
    simp only [waysOf, List.length_append, List.length_map]
    omega
end Go.Proofs.YtdjamkinijhjoaaDoor
namespace Go.Proofs.YtdjamkinijhjoaaDoor
open Go.RowKit

/-- block T is a table of n rows of numbers, each in its own memory from block B on; they read as ps says -/
structure Rows2 (w : World) (B T : Nat) (n : Nat) (ts ti : TypeId) (ps : List (Nat × Nat)) (f : Nat → Value) : Prop where
  tab : w.rowIs T ts n f
  row : ∀ j, j < n → w.ownsRow B ti 1 (f j) (rowOf ps j).length ((rowOf ps j).map fun i : Nat => .int .i64 (i : Int))
  two : ∀ j k, j < n → k < n → j ≠ k → (f j).ownBlock = none ∨ (f j).ownBlock ≠ (f k).ownBlock
  low : T < B

theorem Rows2.alloc {w : World} {B T n : Nat} {ts ti : TypeId} {ps : List (Nat × Nat)} {f : Nat → Value} (h : Rows2 w B T n ts ti ps f) (o : Obj) : Rows2 (w.alloc o) B T n ts ti ps f :=
  ⟨h.tab.alloc o, fun j hj => (h.row j hj).alloc o, h.two, h.low⟩
theorem Rows2.drew {w : World} {B T n : Nat} {ts ti : TypeId} {ps : List (Nat × Nat)} {f : Nat → Value} (h : Rows2 w B T n ts ti ps f) : Rows2 w.drew B T n ts ti ps f :=
  ⟨h.tab.drew, fun j hj => (h.row j hj).drew, h.two, h.low⟩

theorem Rows2.made (w : World) (n : Nat) (ts ti : TypeId) : Rows2 (w.alloc (.cells (madeCells #[.slice none 0 0] n) ts)) (w.heap.size + 1) w.heap.size n ts ti [] (fun _ => .slice none 0 0) :=
  ⟨World.rowIs_made w _ n ts, fun j _ => World.ownsRow_nil _ _ _ _, fun _ _ _ _ _ => .inl rfl, by omega⟩

theorem Rows2.put {w w' : World} {B T n : Nat} {ts ti : TypeId} {ps : List (Nat × Nat)} {f : Nat → Value} (h : Rows2 w B T n ts ti ps f) (hB : B ≤ w.heap.size) {t i : Nat} (ht : t < n) {v' : Value}
    (hown : w'.ownsRow B ti 1 v' ((rowOf ps t).length + 1) (((rowOf ps t).map fun i : Nat => .int .i64 (i : Int)) ++ [.int .i64 (i : Int)])) (hg : w.grownBy w' (f t).ownBlock)
    (hv : v'.ownBlock = (f t).ownBlock ∨ v'.ownBlock = some w.heap.size) :
    Rows2 (w'.setCell ⟨T, t, none⟩ v') B T n ts ti (ps ++ [(t, i)]) (fun j => if j = t then v' else f j) := by
  have hlow : ∀ j, j < n → ∀ k, (f j).ownBlock = some k → B ≤ k ∧ k < w.heap.size := fun j hj k hk => (h.row j hj).lt k hk
  have hT : some T ≠ (f t).ownBlock := fun e => by have := (hlow t ht T e.symm).1; have := h.low; omega
  have hTw : T < w.heap.size := by have := h.low; omega
  have keep : ∀ (v : Value) (m : Nat) (xs : List Value), w'.ownsRow B ti 1 v m xs → (w'.setCell ⟨T, t, none⟩ v').ownsRow B ti 1 v m xs := fun v m xs ho => by
    refine ho.kept (row := some T) ⟨rfl, rfl, rfl, by simp [World.setCell], fun k hk hne => ?_⟩ ?_
    · exact Below.heap_setCell _ _ _ _ (fun e => hne (by rw [e]))
    · cases hb : v.ownBlock with
      | none => exact .inl rfl
      | some k => exact .inr (fun e => by have h1 := (ho.lt k hb).1; have h2 := h.low; injection e with e; omega)
  refine ⟨?_, fun j hj => ?_, fun j k hj hk hjk => ?_, h.low⟩
  · exact (h.tab.of_block (hg.block T hTw hT)).set t v'
  · by_cases hjt : j = t
    · subst hjt
      simp only [if_true]
      rw [rowOf_same, List.length_append, List.map_append]
      exact keep _ _ _ hown
    · simp only [if_neg hjt]
      rw [rowOf_other _ _ hjt]
      exact keep _ _ _ ((h.row j hj).kept hg (h.two j t hj ht hjt))
  · show (if j = t then v' else f j).ownBlock = none ∨ (if j = t then v' else f j).ownBlock ≠ (if k = t then v' else f k).ownBlock
    by_cases hjt : j = t
    · have hkt : k ≠ t := fun e => hjk (hjt.trans e.symm)
      rw [if_pos hjt, if_neg hkt]
      rcases hv with e | e
      · rw [e]; exact h.two t k ht hk (fun e => hkt e.symm)
      · refine .inr (fun g => ?_)
        have := (hlow k hk _ (g.symm.trans e)).2
        omega
    · rw [if_neg hjt]
      by_cases hkt : k = t
      · rw [if_pos hkt]
        rcases hv with e | e
        · rw [e]; exact h.two j t hj ht hjt
        · cases hb : (f j).ownBlock with
          | none => exact .inl rfl
          | some q => exact .inr (fun g => by have := (hlow j hj q hb).2; rw [e] at g; injection g with g; omega)
      · rw [if_neg hkt]; exact h.two j k hj hk hjk
/-- behind a growing of one row the table reads as before -/
theorem Rows2.atTab {w w' : World} {B T n : Nat} {ts ti : TypeId} {ps : List (Nat × Nat)} {f : Nat → Value} (h : Rows2 w B T n ts ti ps f) {t : Nat} (ht : t < n) (hg : w.grownBy w' (f t).ownBlock) : w'.cell? ⟨T, t, none⟩ = some (f t) ∧ w'.frozen? ⟨T, t, none⟩ = false := by
  have hT : some T ≠ (f t).ownBlock := fun e => by have := ((h.row t ht).lt T e.symm).1; have := h.low; omega
  have hb := hg.block T h.tab.lt hT
  exact ⟨(World.cell?_of_block (a := ⟨T, t, none⟩) hb).trans (h.tab.cell ht), (World.frozen?_of_block (a := ⟨T, t, none⟩) hb).trans (h.tab.frozen t)⟩
end Go.Proofs.YtdjamkinijhjoaaDoor
