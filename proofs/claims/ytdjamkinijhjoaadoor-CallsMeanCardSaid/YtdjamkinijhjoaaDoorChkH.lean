/-
  The contract of the checker's ins: what is wrong with an instruction.
-/
import Derived.Test.YtdjamkinijhjoaaDoorBChkF
import Derived.WalkKit
import Derived.WalkSpells
import Derived.WalkLawsBesides
namespace Go.Proofs.YtdjamkinijhjoaaDoor
open Go.RowKit

def shD (op : Int) : Bool := decide (1 ≤ op ∧ op ≤ 22 ∧ op ≠ 19 ∧ op ≠ 22)
def shA (op : Int) : Bool := decide (1 ≤ op ∧ op ≤ 22 ∧ op ≠ 20 ∧ op ≠ 21)
def shB (op : Int) : Bool := decide ((2 ≤ op ∧ op ≤ 15) ∨ op = 19)

set_option maxHeartbeats 1000000 in
theorem shapes_any (op : Int) (w : World) (h : 1 ≤ op ∧ op ≤ 22) :
    Calls Tryd.prog 86 #[.int .i64 op] w fun e w' => e = .returned (.agg #[.bool (shD op), .bool (shA op), .bool (shB op)]) ∧ w' = w.alloc (.cells #[.bool (shD op), .bool (shA op), .bool (shB op)] 154) := by
  obtain hc | hc : (2 ≤ op ∧ op ≤ 15) ∨ (op = 1 ∨ op = 16 ∨ op = 17 ∨ op = 18 ∨ op = 19 ∨ op = 20 ∨ op = 21 ∨ op = 22) := by omega
  · have hD : shD op = true := by simp [shD]; omega
    have hA : shA op = true := by simp [shA]; omega
    have hB : shB op = true := by simp [shB]; omega
    rw [hD, hA, hB]
    have h1 : (op == 1) = false := by rw [beq_eq_false_iff_ne]; omega
    have h2 : (op == 16) = false := by rw [beq_eq_false_iff_ne]; omega
    have h3 : (op == 17) = false := by rw [beq_eq_false_iff_ne]; omega
    have h4 : (op == 18) = false := by rw [beq_eq_false_iff_ne]; omega
    go_enter Tryd.func86, Tryd.ntmps86
    go_wp2
    all_goals (refine bodyPost_ret ?_ rfl ⟨rfl, rfl⟩; simp [results, Tryd.results86, go_sem])
  · rcases hc with rfl | rfl | rfl | rfl | rfl | rfl | rfl | rfl
    all_goals
      go_enter Tryd.func86, Tryd.ntmps86
      go_wp2
      (refine bodyPost_ret ?_ rfl ⟨rfl, rfl⟩; simp [results, Tryd.results86, go_sem, shD, shA, shB])

def insE (regs : Int) (nf : Nat) (P : Nat → Int) (op dst an bn fn : Int) (ar br : Bool) (L : List (Bool × Int)) : Int :=
  if ¬(1 ≤ op ∧ op ≤ 22) then 4
  else if (shD op = false ∧ dst ≠ -1) ∨ (shA op = false ∧ ¬(ar = false ∧ an = 0)) ∨ (shB op = false ∧ ¬(br = false ∧ bn = 0)) ∨ (op ≠ 20 ∧ (fn ≠ 0 ∨ 0 < L.length)) then 5
  else if shD op = true ∧ ¬(op = 20 ∧ dst = -1) ∧ dstE regs dst ≠ 0 then dstE regs dst
  else firstE [valE regs ar an, valE regs br bn, callE regs nf P (op == 20) fn L]

set_option maxRecDepth 100000 in
set_option maxHeartbeats 1000000 in
theorem ins_kind (g1 f1 b1 a1 p : Option Addr) (g2 g3 f2 f3 b2 b3 a2 a3 c : Nat) (nm : ByteArray) (params regs op dst an bn fn : Int) (ar br : Bool) (P : Nat → Int) (L : List (Bool × Int)) (w : World) (h : ¬(1 ≤ op ∧ op ≤ 22)) :
    Calls Tryd.prog 72 #[.agg #[.slice g1 g2 g3, .slice f1 f2 f3, .string nm, .int .i64 params, .int .i64 regs, .slice b1 b2 b3, .slice a1 a2 a3], .agg #[.int .i64 op, .int .i64 dst, .bool ar, .int .i64 an, .bool br, .int .i64 bn, .int .i64 fn, .slice p L.length c]] w fun e w' => e = .returned (.int .i64 (insE regs f2 P op dst an bn fn ar br L)) ∧ Below w.heap.size w w' := by
  have hw : wthn op 1 22 = false := by simp only [wthn, decide_eq_false_iff_not]; exact h
  have HV : Hid (insE regs f2 P op dst an bn fn ar br L = 4) := by show _ = _; unfold insE; rw [if_pos h]
  clear h
  go_enter Tryd.func72, Tryd.ntmps72
  go_wp2_with (go_at_call 34; refine (within_any _ _ _ _).mono ?_; rintro e w1 ⟨rfl, rfl⟩)
  go_ret
  refine ⟨by rw [HV.out]; rfl, ?_⟩
  repeat (first | with_reducible exact Below.refl _ _ | with_reducible exact HB3.out | with_reducible refine Below.drew ?_ | with_reducible refine below_drewN ?_ _ | with_reducible refine Below.setCell ?_ ?_ _ | with_reducible refine Below.alloc ?_ ?_ _ | with_reducible exact HB2.out | with_reducible exact HB1.out | with_reducible refine Below.trans ?_ (Below.mono hb3 ?_) | with_reducible refine Below.trans ?_ (Below.mono hb5 ?_) | with_reducible refine Below.trans ?_ (Below.mono hb4 ?_) | omega | (simp; omega) | simp)

theorem insE_1 {regs : Int} {nf : Nat} {P : Nat → Int} {op dst an bn fn : Int} {ar br : Bool} {L : List (Bool × Int)} (h : 1 ≤ op ∧ op ≤ 22)
    (g : (shD op = false ∧ dst ≠ -1) ∨ (shA op = false ∧ ¬(ar = false ∧ an = 0)) ∨ (shB op = false ∧ ¬(br = false ∧ bn = 0)) ∨ (op ≠ 20 ∧ (fn ≠ 0 ∨ 0 < L.length))) : insE regs nf P op dst an bn fn ar br L = 5 := by
  unfold insE; rw [if_neg (fun x => x h), if_pos g]
theorem insE_2 {regs : Int} {nf : Nat} {P : Nat → Int} {op dst an bn fn : Int} {ar br : Bool} {L : List (Bool × Int)} (h : 1 ≤ op ∧ op ≤ 22)
    (gd : shD op = true ∨ dst = -1) (ga : shA op = true ∨ (¬ar = true ∧ an = 0)) (gb : shB op = true ∨ (¬br = true ∧ bn = 0)) (gf : (!op == 20) = false ∨ (fn = 0 ∧ ¬0 < L.length)) :
    insE regs nf P op dst an bn fn ar br L = if shD op = true ∧ ¬(op = 20 ∧ dst = -1) ∧ dstE regs dst ≠ 0 then dstE regs dst else firstE [valE regs ar an, valE regs br bn, callE regs nf P (op == 20) fn L] := by
  unfold insE
  rw [if_neg (fun x => x h), if_neg]
  rintro (⟨x, y⟩ | ⟨x, y⟩ | ⟨x, y⟩ | ⟨x, y⟩)
  · rcases gd with g | g
    · rw [x] at g; cases g
    · exact y g
  · rcases ga with g | ⟨g, k⟩
    · rw [x] at g; cases g
    · exact y ⟨by simpa using g, k⟩
  · rcases gb with g | ⟨g, k⟩
    · rw [x] at g; cases g
    · exact y ⟨by simpa using g, k⟩
  · rcases gf with g | ⟨g, k⟩
    · simp at g; exact x g
    · rcases y with y | y
      · exact y g
      · exact k y

set_option maxRecDepth 100000 in
set_option maxHeartbeats 1000000 in
theorem ins_d0 (g1 f1 b1 a1 p : Option Addr) (g2 g3 f2 f3 b2 b3 a2 a3 c : Nat) (nm : ByteArray) (params regs op dst an bn fn : Int) (ar br d a b : Bool) (P : Nat → Int) (L : List (Bool × Int)) (w : World) (h : 1 ≤ op ∧ op ≤ 22)
    (hf : f2 ≤ 9223372036854775807) (h1 : 0 ≤ regs) (h2 : regs ≤ 9223372036854775807)
    (hP : f2 = 0 ∨ ∃ fb fo, f1 = some ⟨fb, fo, none⟩ ∧ ∀ i, i < f2 → w.cell? ⟨fb, fo + i * 4 + 1, none⟩ = some (.int .i64 (P i))) (hl2 : L.length ≤ 9223372036854775807) (hL : SliceAt w 2 ValR p L)
    (hd : shD op = d) (ha : shA op = a) (hb : shB op = b) (hd0 : d = false) :
    Calls Tryd.prog 72 #[.agg #[.slice g1 g2 g3, .slice f1 f2 f3, .string nm, .int .i64 params, .int .i64 regs, .slice b1 b2 b3, .slice a1 a2 a3], .agg #[.int .i64 op, .int .i64 dst, .bool ar, .int .i64 an, .bool br, .int .i64 bn, .int .i64 fn, .slice p L.length c]] w fun e w' => e = .returned (.int .i64 (insE regs f2 P op dst an bn fn ar br L)) ∧ Below w.heap.size w w' := by
  have hw : wthn op 1 22 = true := by simp only [wthn, decide_eq_true_eq]; exact h
  have hs := fun w => shapes_any op w h
  have E1 : Hid (¬dst = -1 → insE regs f2 P op dst an bn fn ar br L = 5) := fun x => insE_1 h (.inl ⟨hd.trans hd0, x⟩)
  have E2 : Hid (¬a = true → ar = true → insE regs f2 P op dst an bn fn ar br L = 5) := fun x y => insE_1 h (.inr (.inl ⟨by rw [ha]; simpa using x, by rw [y]; simp⟩))
  have E3 : Hid (¬a = true → ¬an = 0 → insE regs f2 P op dst an bn fn ar br L = 5) := fun x y => insE_1 h (.inr (.inl ⟨by rw [ha]; simpa using x, fun z => y z.2⟩))
  have E4 : Hid (¬b = true → br = true → insE regs f2 P op dst an bn fn ar br L = 5) := fun x y => insE_1 h (.inr (.inr (.inl ⟨by rw [hb]; simpa using x, by rw [y]; simp⟩)))
  have E5 : Hid (¬b = true → ¬bn = 0 → insE regs f2 P op dst an bn fn ar br L = 5) := fun x y => insE_1 h (.inr (.inr (.inl ⟨by rw [hb]; simpa using x, fun z => y z.2⟩)))
  have E6 : Hid ((!op == 20) = true → ¬fn = 0 → insE regs f2 P op dst an bn fn ar br L = 5) := fun x y => insE_1 h (.inr (.inr (.inr ⟨by simpa using x, .inl y⟩)))
  have E7 : Hid (((!op == 20) = true ∧ 0 < L.length) → insE regs f2 P op dst an bn fn ar br L = 5) := fun x => insE_1 h (.inr (.inr (.inr ⟨by simpa using x.1, .inr x.2⟩)))
  have E8 : Hid (dst = -1 → (a = true ∨ (¬ar = true ∧ an = 0)) → (b = true ∨ (¬br = true ∧ bn = 0)) → ((!op == 20) = false ∨ (fn = 0 ∧ ¬0 < L.length)) → insE regs f2 P op dst an bn fn ar br L = firstE [valE regs ar an, valE regs br bn, callE regs f2 P (op == 20) fn L]) := fun x y z u => by
    rw [insE_2 h (.inr x) (by rw [ha]; exact y) (by rw [hb]; exact z) u, if_neg]
    rw [hd, hd0]; simp
  rw [hd, ha, hb] at hs
  have HS : Hid (∀ w, Calls Tryd.prog 86 #[.int .i64 op] w fun e w' => e = .returned (.agg #[.bool d, .bool a, .bool b]) ∧ w' = w.alloc (.cells #[.bool d, .bool a, .bool b] 154)) := hs
  have HP : Hid (f2 = 0 ∨ ∃ fb fo, f1 = some ⟨fb, fo, none⟩ ∧ ∀ i, i < f2 → w.cell? ⟨fb, fo + i * 4 + 1, none⟩ = some (.int .i64 (P i))) := hP
  have HL : Hid (SliceAt w 2 ValR p L) := hL
  subst hd0
  generalize hl : L.length = l at *
  have HZ : Hid (L.length = l) := hl
  clear hs hd ha hb h hP hL hl
  go_enter Tryd.func72, Tryd.ntmps72
  go_wp2_with (first | (go_at_call 34; refine (within_any _ _ _ _).mono ?_; rintro e w1 ⟨rfl, rfl⟩) | (go_at_call 86; refine (HS.out _).mono ?_; rintro e w1 ⟨rfl, rfl⟩))
  all_goals first
    | (go_ret; (have hE : insE regs f2 P op dst an bn fn ar br L = 5 := by first | exact E1.out ‹¬dst = -1› | exact E2.out ‹¬a = true› ‹ar = true› | exact E3.out ‹¬a = true› ‹¬an = 0› | exact E4.out ‹¬b = true› ‹br = true› | exact E5.out ‹¬b = true› ‹¬bn = 0› | exact E6.out ‹(!op == 20) = true› ‹¬fn = 0› | exact E7.out ‹(!op == 20) = true ∧ 0 < l›); refine ⟨by rw [hE]; rfl, ?_⟩; repeat (first | with_reducible exact Below.refl _ _ | with_reducible exact HB3.out | with_reducible refine Below.drew ?_ | with_reducible refine below_drewN ?_ _ | with_reducible refine Below.setCell ?_ ?_ _ | with_reducible refine Below.alloc ?_ ?_ _ | with_reducible exact HB2.out | with_reducible exact HB1.out | with_reducible refine Below.trans ?_ (Below.mono hb3 ?_) | with_reducible refine Below.trans ?_ (Below.mono hb5 ?_) | with_reducible refine Below.trans ?_ (Below.mono hb4 ?_) | omega | (simp; omega) | simp))
    | skip
  all_goals
    have hE : insE regs f2 P op dst an bn fn ar br L = firstE [valE regs ar an, valE regs br bn, callE regs f2 P (op == 20) fn L] := by
      refine E8.out ‹dst = -1› ?_ ?_ ?_
      · first | exact .inl ‹a = true› | exact .inr ⟨‹¬ar = true›, ‹an = 0›⟩
      · first | exact .inl ‹b = true› | exact .inr ⟨‹¬br = true›, ‹bn = 0›⟩
      · first | exact .inl ‹(!op == 20) = false› | (refine .inl ?_; have g := ‹op = 20›; simp [g]; done) | exact .inr ⟨‹fn = 0›, ‹¬0 < l›⟩ | (rcases ‹(!op == 20) = false ∨ ¬0 < l› with g | g; (exact .inl g); exact .inr ⟨‹fn = 0›, g⟩)
    clear E1 E2 E3 E4 E5 E6 E7 E8 HS
    (have g := HZ.out; subst g)
    generalize hv : firstE [valE regs ar an, valE regs br bn, callE regs f2 P (op == 20) fn L] = v at hE
    have HVV : Hid (firstE [valE regs ar an, valE regs br bn, callE regs f2 P (op == 20) fn L] = v) := hv
    clear hv
    refine (first_any _ _ _ ⟨w.heap.size, 0, none⟩ ⟨w.heap.size + 1, 0, none⟩ ⟨w.heap.size + 1 + 1 + 1 + 1, 0, none⟩ _ _ _ _ ?g0 ?g1 ?g2 (ins1_asks (g1 := g1) (g2 := g2) (g3 := g3) (f1 := f1) (f2 := f2) (f3 := f3) (nm := nm) (params := params) (regs := regs) (b1 := b1) (b2 := b2) (b3 := b3) (a1 := a1) (a2 := a2) (a3 := a3) (op := op) (dst := dst) (an := an) (bn := bn) (fn := fn) (ar := ar) (br := br) (p := p) (c := c) (l := L.length) ?hB ?hX h1 h2) (ins2_asks ?hB ?hX h1 h2) (ins3_asks (call := op == 20) P L ?hB ?hX ?hC hf h1 h2 ?hP hl2 ?hL)).mono ?fin
    case g0 => exact ((blk (heap_at (by simp))).1 0).trans rfl
    case g1 => exact ((blk (heap_at (by simp))).1 1).trans rfl
    case g2 => exact ((blk (heap_at (by simp))).1 2).trans rfl
    case hB => (repeat (first | exact heap_at (by simp) | refine heap_step ?_))
    case hX =>
      (try (have g := ‹dst = -1›; subst g))
      (try (have g := ‹an = 0›; subst g))
      (try (have g := ‹bn = 0›; subst g))
      (try (have g := ‹fn = 0›; subst g))
      (try (have g := ‹op = 20›; subst g))
      (try (have g := Bool.eq_false_iff.2 ‹¬ar = true›; subst g))
      (try (have g := Bool.eq_false_iff.2 ‹¬br = true›; subst g))
      repeat (first | exact heap_at (by simp) | refine heap_step ?_)
    case hC =>
      refine Eq.trans ((blk (heap_step (heap_at (by simp)))).1 0) ?_
      first | rfl | (have g := ‹op = 20›; subst g; rfl) | (have g := ‹(!op == 20) = false›; simp only [Bool.not_eq_false'] at g; rw [g]; rfl) | (have g := ‹(!op == 20) = true›; simp only [Bool.not_eq_true'] at g; rw [g]; rfl)
    case hL => exact HL.out.to (by decide) (by repeat (first | with_reducible exact Below.refl _ _ | with_reducible exact HB3.out | with_reducible refine Below.drew ?_ | with_reducible refine below_drewN ?_ _ | with_reducible refine Below.setCell ?_ ?_ _ | with_reducible refine Below.alloc ?_ ?_ _ | with_reducible exact HB2.out | with_reducible exact HB1.out | with_reducible refine Below.trans ?_ (Below.mono hb3 ?_) | with_reducible refine Below.trans ?_ (Below.mono hb5 ?_) | with_reducible refine Below.trans ?_ (Below.mono hb4 ?_) | omega | (simp; omega) | simp)) (fun _ _ _ h => h)
    case hP =>
      rcases HP.out with g | ⟨fb, fo, g, k⟩
      · exact .inl g
      · refine .inr ⟨fb, fo, g, fun i hi => ?_⟩
        refine Eq.trans (Below.cell (B := w.heap.size) (w := w) ?_ (p := ⟨fb, fo + i * 4 + 1, none⟩) (lt_of_cell (k i hi))) (k i hi)
        repeat (first | with_reducible exact Below.refl _ _ | with_reducible exact HB3.out | with_reducible refine Below.drew ?_ | with_reducible refine below_drewN ?_ _ | with_reducible refine Below.setCell ?_ ?_ _ | with_reducible refine Below.alloc ?_ ?_ _ | with_reducible exact HB2.out | with_reducible exact HB1.out | with_reducible refine Below.trans ?_ (Below.mono hb3 ?_) | with_reducible refine Below.trans ?_ (Below.mono hb5 ?_) | with_reducible refine Below.trans ?_ (Below.mono hb4 ?_) | omega | (simp; omega) | simp)
    case fin =>
      rintro e w4 ⟨rfl, hb4⟩
      rw [HVV.out]
      go_wp2
      go_ret
      refine ⟨by rw [hE]; rfl, ?_⟩
      repeat (first | with_reducible exact Below.refl _ _ | with_reducible exact HB3.out | with_reducible refine Below.drew ?_ | with_reducible refine below_drewN ?_ _ | with_reducible refine Below.setCell ?_ ?_ _ | with_reducible refine Below.alloc ?_ ?_ _ | with_reducible exact HB2.out | with_reducible exact HB1.out | with_reducible refine Below.trans ?_ (Below.mono hb3 ?_) | with_reducible refine Below.trans ?_ (Below.mono hb5 ?_) | with_reducible refine Below.trans ?_ (Below.mono hb4 ?_) | omega | (simp; omega) | simp)
end Go.Proofs.YtdjamkinijhjoaaDoor
