/-
  The walk of SpanParams: it tells true.
-/
import Derived.WalkKit
import Derived.WalkSpells
import Derived.WalkLawsBesides
import Derived.Test.YtdjamkinijhjoaaDoorJLaidW
namespace Go.Proofs.YtdjamkinijhjoaaDoor
open Go.RowKit Go.Shelf

theorem run_eqInPair (a b c d : Int) (w : World) : (Op.equalIn 10000 38 (.agg #[.int .i64 a, .int .i64 b]) (.agg #[.int .i64 c, .int .i64 d])).run Tryd.prog w = .ok (a == c && b == d) w := by
  have u3 := Tryd.underlying3
  have a3 := Tryd.isAgg3
  have z3 := Tryd.sizeOf3
  rw [show (10000 : Nat) = 9999 + 1 from rfl, Op.equalIn]
  simp only [Sem.run_bind, run_underlying Tryd.underlying38, Result.andThen_ok]
  simp only [Std.Legacy.Range.forIn_eq_forIn_range', Std.Legacy.Range.size, Nat.sub_zero, Nat.add_sub_cancel, Nat.div_one, List.range'_succ, List.range'_zero, List.forIn_cons, List.forIn_nil]
  go_simp
  by_cases h1 : a = c <;> by_cases h2 : b = d <;> simp [h1, h2]
/-- what both laws ask first: Of tells a fault -/
theorem okU_none (u : UniL) (k : Int) (gp fp : Option Addr) (gc fc : Nat) (w : World) (hgl : u.globals.length * 48 ≤ 140737488351232) (hG : SliceAt w 3 (GloR w) gp u.globals) (hfl : u.funcs.length * 56 ≤ 140737488351232) (hF : SliceAt w 4 (FunR w) fp u.funcs) (hways : Ways w) (h : okU u = false ∨ k < 0 ∨ (u.funcs.length : Int) ≤ k) :
    ∃ c a : Int, c ≠ 0 ∧ Calls Tryd.prog 9 #[.agg #[.slice gp u.globals.length gc, .slice fp u.funcs.length fc], .int .i64 k] w fun e w' => e = .returned (.tuple #[.slice none 0 0, .agg #[.int .i64 c, .int .i64 a]]) ∧ Below w.heap.size w w' := by
  cases hok : okU u
  · exact ⟨_, _, okU_false hok, spanOf_bad u k gp fp gc fc w hgl hG hfl hF hways hok⟩
  · exact ⟨_, _, (by decide : (3 : Int) ≠ 0), spanOf_range u k gp fp gc fc w hgl hG hfl hF hways hok (h.resolve_left (by rw [hok]; decide))⟩
set_option maxRecDepth 100000 in
set_option maxHeartbeats 4000000 in
theorem spa_bad (u : UniL) (gp fp : Option Addr) (gc fc : Nat) (k : Int) (w : World) (hgl : u.globals.length * 48 ≤ 140737488351232) (hG : SliceAt w 3 (GloR w) gp u.globals) (hfl : u.funcs.length * 56 ≤ 140737488351232) (hF : SliceAt w 4 (FunR w) fp u.funcs) (hways : Ways w) (hbad : okU u = false ∨ k < 0 ∨ (u.funcs.length : Int) ≤ k) :
    Calls Tryd.prog 4 #[.agg #[.slice gp u.globals.length gc, .slice fp u.funcs.length fc], .int .i64 k] w fun e w' => e = .returned (.bool true) ∧ Below w.heap.size w w' := by
  have HG := hidI hG
  have HF := hidI hF
  have HW := hidI hways
  have HBad := hidI hbad
  clear hG hF hways hbad
  go_enter Tryd.func4, Tryd.ntmps4
  go_wp2_with fail
  obtain ⟨c1, a1, h1, hO1⟩ := okU_none u k gp fp gc fc (w.alloc (.cells #[.slice gp u.globals.length gc, .slice fp u.funcs.length fc] 25)) hgl (glosMono HG.out (by repeat (first | with_reducible exact Below.refl _ _ | with_reducible exact HB3.out | with_reducible refine Below.drew ?_ | with_reducible refine below_drewN ?_ _ | with_reducible refine Below.setCell ?_ ?_ _ | with_reducible refine Below.alloc ?_ ?_ _ | with_reducible exact HB2.out | with_reducible exact HB1.out | with_reducible refine Below.trans ?_ (Below.mono hb3 ?_) | with_reducible refine Below.trans ?_ (Below.mono hb5 ?_) | with_reducible refine Below.trans ?_ (Below.mono hb4 ?_) | omega | (simp; omega) | simp))) hfl (funsMono HF.out (by repeat (first | with_reducible exact Below.refl _ _ | with_reducible exact HB3.out | with_reducible refine Below.drew ?_ | with_reducible refine below_drewN ?_ _ | with_reducible refine Below.setCell ?_ ?_ _ | with_reducible refine Below.alloc ?_ ?_ _ | with_reducible exact HB2.out | with_reducible exact HB1.out | with_reducible refine Below.trans ?_ (Below.mono hb3 ?_) | with_reducible refine Below.trans ?_ (Below.mono hb5 ?_) | with_reducible refine Below.trans ?_ (Below.mono hb4 ?_) | omega | (simp; omega) | simp))) (HW.out.below (by repeat (first | with_reducible exact Below.refl _ _ | with_reducible exact HB3.out | with_reducible refine Below.drew ?_ | with_reducible refine below_drewN ?_ _ | with_reducible refine Below.setCell ?_ ?_ _ | with_reducible refine Below.alloc ?_ ?_ _ | with_reducible exact HB2.out | with_reducible exact HB1.out | with_reducible refine Below.trans ?_ (Below.mono hb3 ?_) | with_reducible refine Below.trans ?_ (Below.mono hb5 ?_) | with_reducible refine Below.trans ?_ (Below.mono hb4 ?_) | omega | (simp; omega) | simp))) HBad.out
  refine hO1.mono ?_
  rintro e w1 ⟨rfl, hb1⟩
  have HB1 : Hid (Below w.heap.size w w1) := Below.trans (by repeat (first | with_reducible exact Below.refl _ _ | with_reducible exact HB3.out | with_reducible refine Below.drew ?_ | with_reducible refine below_drewN ?_ _ | with_reducible refine Below.setCell ?_ ?_ _ | with_reducible refine Below.alloc ?_ ?_ _ | with_reducible exact HB2.out | with_reducible exact HB1.out | with_reducible refine Below.trans ?_ (Below.mono hb3 ?_) | with_reducible refine Below.trans ?_ (Below.mono hb5 ?_) | with_reducible refine Below.trans ?_ (Below.mono hb4 ?_) | omega | (simp; omega) | simp)) (hb1.mono (by simp))
  have hc0 := fun o => (blk (heap_below hb1 (k := w.heap.size) (by simp) (heap_here w _))).1 o
  have hz1 : w.heap.size < w1.heap.size := by have := hb1.size; simp at this; omega
  have hn1 : (c1 != 0) = true := by simp [h1]
  have hn1' : (c1 == 0) = false := by simp [h1]
  clear hb1 hO1
  go_wp2_with fail
  obtain ⟨c2, a2, h2, hO2⟩ := okU_none u (-1) gp fp gc fc (w1.alloc (.cells #[.int .i64 c1, .int .i64 a1] 28)) hgl (glosMono HG.out (by repeat (first | with_reducible exact Below.refl _ _ | with_reducible exact HB3.out | with_reducible refine Below.drew ?_ | with_reducible refine below_drewN ?_ _ | with_reducible refine Below.setCell ?_ ?_ _ | with_reducible refine Below.alloc ?_ ?_ _ | with_reducible exact HB2.out | with_reducible exact HB1.out | with_reducible refine Below.trans ?_ (Below.mono hb3 ?_) | with_reducible refine Below.trans ?_ (Below.mono hb5 ?_) | with_reducible refine Below.trans ?_ (Below.mono hb4 ?_) | omega | (simp; omega) | simp))) hfl (funsMono HF.out (by repeat (first | with_reducible exact Below.refl _ _ | with_reducible exact HB3.out | with_reducible refine Below.drew ?_ | with_reducible refine below_drewN ?_ _ | with_reducible refine Below.setCell ?_ ?_ _ | with_reducible refine Below.alloc ?_ ?_ _ | with_reducible exact HB2.out | with_reducible exact HB1.out | with_reducible refine Below.trans ?_ (Below.mono hb3 ?_) | with_reducible refine Below.trans ?_ (Below.mono hb5 ?_) | with_reducible refine Below.trans ?_ (Below.mono hb4 ?_) | omega | (simp; omega) | simp))) (HW.out.below (by repeat (first | with_reducible exact Below.refl _ _ | with_reducible exact HB3.out | with_reducible refine Below.drew ?_ | with_reducible refine below_drewN ?_ _ | with_reducible refine Below.setCell ?_ ?_ _ | with_reducible refine Below.alloc ?_ ?_ _ | with_reducible exact HB2.out | with_reducible exact HB1.out | with_reducible refine Below.trans ?_ (Below.mono hb3 ?_) | with_reducible refine Below.trans ?_ (Below.mono hb5 ?_) | with_reducible refine Below.trans ?_ (Below.mono hb4 ?_) | omega | (simp; omega) | simp))) (.inr (.inl (by omega)))
  refine hO2.mono ?_
  rintro e w2 ⟨rfl, hb2⟩
  have HB2 : Hid (Below w.heap.size w w2) := Below.trans (by repeat (first | with_reducible exact Below.refl _ _ | with_reducible exact HB3.out | with_reducible refine Below.drew ?_ | with_reducible refine below_drewN ?_ _ | with_reducible refine Below.setCell ?_ ?_ _ | with_reducible refine Below.alloc ?_ ?_ _ | with_reducible exact HB2.out | with_reducible exact HB1.out | with_reducible refine Below.trans ?_ (Below.mono hb3 ?_) | with_reducible refine Below.trans ?_ (Below.mono hb5 ?_) | with_reducible refine Below.trans ?_ (Below.mono hb4 ?_) | omega | (simp; omega) | simp)) (hb2.mono (by simp; omega))
  have hz2 : w.heap.size < w2.heap.size := by have := hb2.size; simp at this; omega
  have hz3 : w1.heap.size < w2.heap.size := by have := hb2.size; simp at this; omega
  obtain ⟨hcc2, hcf2, _⟩ := bcell hb2
  have hn2 : (c2 == 0) = false := by simp [h2]
  have hz11 : w1.heap.size < w2.heap.size + 1 := by omega
  clear hb2 hO2
  go_wp2_with fail
  go_ret
  refine ⟨rfl, ?_⟩
  repeat (first | with_reducible exact Below.refl _ _ | with_reducible exact HB3.out | with_reducible refine Below.drew ?_ | with_reducible refine below_drewN ?_ _ | with_reducible refine Below.setCell ?_ ?_ _ | with_reducible refine Below.alloc ?_ ?_ _ | with_reducible exact HB2.out | with_reducible exact HB1.out | with_reducible refine Below.trans ?_ (Below.mono hb3 ?_) | with_reducible refine Below.trans ?_ (Below.mono hb5 ?_) | with_reducible refine Below.trans ?_ (Below.mono hb4 ?_) | omega | (simp; omega) | simp)
set_option maxRecDepth 100000 in
set_option maxHeartbeats 4000000 in
theorem spa_ok (u : UniL) (gp fp : Option Addr) (gc fc : Nat) (k : Nat) (w : World) (hgl : u.globals.length * 48 ≤ 140737488351232) (hG : SliceAt w 3 (GloR w) gp u.globals) (hfl : u.funcs.length * 56 ≤ 140737488351232) (hF : SliceAt w 4 (FunR w) fp u.funcs) (hways : Ways w) (hA : AllW w) (hok : okU u = true) (hk : k < u.funcs.length) :
    Calls Tryd.prog 4 #[.agg #[.slice gp u.globals.length gc, .slice fp u.funcs.length fc], .int .i64 k] w fun e w' => e = .returned (.bool true) ∧ Below w.heap.size w w' := by
  have HG := hidI hG
  have HF := hidI hF
  have HW := hidI hways
  have HA := hidI hA
  have HOk := hidI hok
  have HR' := hidI ((okU_chk hok).funR hk)
  have hq : ∀ w, (Op.equalIn 10000 38 (.agg #[.int .i64 (-9223372036854775808), .int .i64 9223372036854775807]) (.agg #[.int .i64 (-9223372036854775808), .int .i64 9223372036854775807])).run Tryd.prog w = .ok true w := fun w => by rw [run_eqInPair]; rfl
  clear hG hF hways hok hA
  go_enter Tryd.func4, Tryd.ntmps4
  go_wp2_with fail
  refine (spanOf_ok u k _ _ _ _ _ hgl (glosMono HG.out (by repeat (first | with_reducible exact Below.refl _ _ | with_reducible exact HB3.out | with_reducible refine Below.drew ?_ | with_reducible refine below_drewN ?_ _ | with_reducible refine Below.setCell ?_ ?_ _ | with_reducible refine Below.alloc ?_ ?_ _ | with_reducible exact HB2.out | with_reducible exact HB1.out | with_reducible refine Below.trans ?_ (Below.mono hb3 ?_) | with_reducible refine Below.trans ?_ (Below.mono hb5 ?_) | with_reducible refine Below.trans ?_ (Below.mono hb4 ?_) | omega | (simp; omega) | simp))) hfl (funsMono HF.out (by repeat (first | with_reducible exact Below.refl _ _ | with_reducible exact HB3.out | with_reducible refine Below.drew ?_ | with_reducible refine below_drewN ?_ _ | with_reducible refine Below.setCell ?_ ?_ _ | with_reducible refine Below.alloc ?_ ?_ _ | with_reducible exact HB2.out | with_reducible exact HB1.out | with_reducible refine Below.trans ?_ (Below.mono hb3 ?_) | with_reducible refine Below.trans ?_ (Below.mono hb5 ?_) | with_reducible refine Below.trans ?_ (Below.mono hb4 ?_) | omega | (simp; omega) | simp))) (HW.out.below (by repeat (first | with_reducible exact Below.refl _ _ | with_reducible exact HB3.out | with_reducible refine Below.drew ?_ | with_reducible refine below_drewN ?_ _ | with_reducible refine Below.setCell ?_ ?_ _ | with_reducible refine Below.alloc ?_ ?_ _ | with_reducible exact HB2.out | with_reducible exact HB1.out | with_reducible refine Below.trans ?_ (Below.mono hb3 ?_) | with_reducible refine Below.trans ?_ (Below.mono hb5 ?_) | with_reducible refine Below.trans ?_ (Below.mono hb4 ?_) | omega | (simp; omega) | simp))) (HA.out.below (by repeat (first | with_reducible exact Below.refl _ _ | with_reducible exact HB3.out | with_reducible refine Below.drew ?_ | with_reducible refine below_drewN ?_ _ | with_reducible refine Below.setCell ?_ ?_ _ | with_reducible refine Below.alloc ?_ ?_ _ | with_reducible exact HB2.out | with_reducible exact HB1.out | with_reducible refine Below.trans ?_ (Below.mono hb3 ?_) | with_reducible refine Below.trans ?_ (Below.mono hb5 ?_) | with_reducible refine Below.trans ?_ (Below.mono hb4 ?_) | omega | (simp; omega) | simp))) HOk.out hk).mono ?_
  rintro e w1 ⟨v, S, rfl, hO1, hS1, hb1⟩
  have HB1 : Hid (Below w.heap.size w w1) := Below.trans (by repeat (first | with_reducible exact Below.refl _ _ | with_reducible exact HB3.out | with_reducible refine Below.drew ?_ | with_reducible refine below_drewN ?_ _ | with_reducible refine Below.setCell ?_ ?_ _ | with_reducible refine Below.alloc ?_ ?_ _ | with_reducible exact HB2.out | with_reducible exact HB1.out | with_reducible refine Below.trans ?_ (Below.mono hb3 ?_) | with_reducible refine Below.trans ?_ (Below.mono hb5 ?_) | with_reducible refine Below.trans ?_ (Below.mono hb4 ?_) | omega | (simp; omega) | simp)) (hb1.mono (by simp))
  have hU1 := heap_below hb1 (k := w.heap.size) (by simp) (heap_here w _)
  have hc0 := fun o => (blk hU1).1 o
  have HU1 := hidI hU1
  have hz1 : w.heap.size < w1.heap.size := by have := hb1.size; simp at this; omega
  have HO1 := hidI hO1
  clear hb1 hO1 hS1 hU1
  obtain ⟨p, c, rfl, hnil, hcap⟩ := HO1.out.val
  go_wp2_with fail
  refine (spanOf_range u _ _ _ _ _ _ hgl (glosMono HG.out (by repeat (first | with_reducible exact Below.refl _ _ | with_reducible exact HB3.out | with_reducible refine Below.drew ?_ | with_reducible refine below_drewN ?_ _ | with_reducible refine Below.setCell ?_ ?_ _ | with_reducible refine Below.alloc ?_ ?_ _ | with_reducible exact HB2.out | with_reducible exact HB1.out | with_reducible refine Below.trans ?_ (Below.mono hb3 ?_) | with_reducible refine Below.trans ?_ (Below.mono hb5 ?_) | with_reducible refine Below.trans ?_ (Below.mono hb4 ?_) | omega | (simp; omega) | simp))) hfl (funsMono HF.out (by repeat (first | with_reducible exact Below.refl _ _ | with_reducible exact HB3.out | with_reducible refine Below.drew ?_ | with_reducible refine below_drewN ?_ _ | with_reducible refine Below.setCell ?_ ?_ _ | with_reducible refine Below.alloc ?_ ?_ _ | with_reducible exact HB2.out | with_reducible exact HB1.out | with_reducible refine Below.trans ?_ (Below.mono hb3 ?_) | with_reducible refine Below.trans ?_ (Below.mono hb5 ?_) | with_reducible refine Below.trans ?_ (Below.mono hb4 ?_) | omega | (simp; omega) | simp))) (HW.out.below (by repeat (first | with_reducible exact Below.refl _ _ | with_reducible exact HB3.out | with_reducible refine Below.drew ?_ | with_reducible refine below_drewN ?_ _ | with_reducible refine Below.setCell ?_ ?_ _ | with_reducible refine Below.alloc ?_ ?_ _ | with_reducible exact HB2.out | with_reducible exact HB1.out | with_reducible refine Below.trans ?_ (Below.mono hb3 ?_) | with_reducible refine Below.trans ?_ (Below.mono hb5 ?_) | with_reducible refine Below.trans ?_ (Below.mono hb4 ?_) | omega | (simp; omega) | simp))) HOk.out (.inl (by omega))).mono ?_
  rintro e w2 ⟨rfl, hb2⟩
  have HB2 : Hid (Below w.heap.size w w2) := Below.trans (by repeat (first | with_reducible exact Below.refl _ _ | with_reducible exact HB3.out | with_reducible refine Below.drew ?_ | with_reducible refine below_drewN ?_ _ | with_reducible refine Below.setCell ?_ ?_ _ | with_reducible refine Below.alloc ?_ ?_ _ | with_reducible exact HB2.out | with_reducible exact HB1.out | with_reducible refine Below.trans ?_ (Below.mono hb3 ?_) | with_reducible refine Below.trans ?_ (Below.mono hb5 ?_) | with_reducible refine Below.trans ?_ (Below.mono hb4 ?_) | omega | (simp; omega) | simp)) (hb2.mono (by simp; omega))
  have hz2 : w.heap.size < w2.heap.size := by have := hb2.size; simp at this; omega
  have hz3 : w1.heap.size < w2.heap.size := by have := hb2.size; simp at this; omega
  have HB12 := hidI (show Below w1.heap.size w1 w2 from Below.trans (by repeat (first | with_reducible exact Below.refl _ _ | with_reducible exact HB3.out | with_reducible refine Below.drew ?_ | with_reducible refine below_drewN ?_ _ | with_reducible refine Below.setCell ?_ ?_ _ | with_reducible refine Below.alloc ?_ ?_ _ | with_reducible exact HB2.out | with_reducible exact HB1.out | with_reducible refine Below.trans ?_ (Below.mono hb3 ?_) | with_reducible refine Below.trans ?_ (Below.mono hb5 ?_) | with_reducible refine Below.trans ?_ (Below.mono hb4 ?_) | omega | (simp; omega) | simp)) (hb2.mono (by simp)))
  obtain ⟨hcc2, hcf2, _⟩ := bcell hb2
  have hz11 : w1.heap.size < w2.heap.size + 1 := by omega
  clear hb2
  obtain ⟨b2, o2, q, c2, hp, e0, e1, e2, e3, _, _, _, hbl, hbs⟩ := funGet HF.out HB2.out hk
  subst hp
  have hbb := lt_of_cell e0
  have HS := hidI hbs
  have HFo := hidI (funOk_of HR'.out hbs)
  clear hbs
  generalize hfe : u.funcs[k] = f at *
  have HFe := hidI hfe
  clear hfe
  have hrl : (rngL f).length = f.regs.toNat := by simp [rngL]
  obtain ⟨p', c', hpv, _, _, hsl⟩ := (HO1.out.below locPair HB12.out).read (R' := PairR) locPair (by omega) (fun _ _ _ h => h.1)
  have HSl := hidI hsl
  have hpp : p' = p := by injection hpv with h _ _; exact h.symm
  subst hpp
  rw [hrl] at hnil hcap ⊢
  have hR1 := HR'.out.par
  have hR2 := HR'.out.reg
  obtain ⟨R, hRn⟩ : ∃ R : Nat, f.regs = R := ⟨f.regs.toNat, by omega⟩
  obtain ⟨P, hPn⟩ : ∃ P : Nat, f.params = P := ⟨f.params.toNat, by omega⟩
  have hRt : f.regs.toNat = R := by omega
  have hrl2 : (rngL f).length = R := hrl.trans hRt
  have Hrl := hidI hrl2
  have HPn := hidI hPn
  have HRn := hidI hRn
  rw [hRt] at hnil hcap ⊢
  rw [hRn] at e2
  rw [hPn] at e1
  have hR100 : R ≤ 100 := by omega
  have hPR : P ≤ R := by omega
  clear hsl hpv hrl hrl2 HO1 hRn hPn hRt hR1 hR2
  go_wp2_with fail
  obtain ⟨W9, hW9⟩ : ∃ W9, W9 = (w2.alloc (.cells #[.int .i64 3, .int .i64 (-1)] 28)).alloc (.cells #[.int .i64 (-9223372036854775808), .int .i64 9223372036854775807] 38) := ⟨_, rfl⟩
  rw [← hW9]
  have hb9 : Below w2.heap.size w2 W9 := by rw [hW9]; repeat (first | with_reducible exact Below.refl _ _ | with_reducible exact HB3.out | with_reducible refine Below.drew ?_ | with_reducible refine below_drewN ?_ _ | with_reducible refine Below.setCell ?_ ?_ _ | with_reducible refine Below.alloc ?_ ?_ _ | with_reducible exact HB2.out | with_reducible exact HB1.out | with_reducible refine Below.trans ?_ (Below.mono hb3 ?_) | with_reducible refine Below.trans ?_ (Below.mono hb5 ?_) | with_reducible refine Below.trans ?_ (Below.mono hb4 ?_) | omega | (simp; omega) | simp)
  have hAb : W9.heap[w2.heap.size + 1]? = some (.cells #[.int .i64 (-9223372036854775808), .int .i64 9223372036854775807] 38 (0, 0)) := by rw [hW9]; exact heap_at (by simp)
  have a0 := (blk hAb).1 0
  have a1 := (blk hAb).1 1
  have za := ltHeap hAb
  simp only [List.getElem?_toArray, List.getElem?_cons_zero, List.getElem?_cons_succ] at a0 a1
  have hUb := (hb9.block _ hz2).trans ((HB12.out.block _ hz1).trans HU1.out)
  have u1 := (blk hUb).1 1
  have zu := ltHeap hUb
  simp only [List.getElem?_toArray, List.getElem?_cons_zero, List.getElem?_cons_succ] at u1
  replace e1 := (hb9.cell (p := ⟨b2, o2 + k * 4 + 1, none⟩) (lt_of_cell e1)).trans e1
  replace e3 := (hb9.cell (p := ⟨b2, o2 + k * 4 + 3, none⟩) (lt_of_cell e3)).trans e3
  replace hbb := lt_of_cell e1
  have HB9 := hidI (HB2.out.trans (hb9.mono HB2.out.size))
  have HS9 := hidI (blksMono HS.out hb9)
  have HPg : Hid (∀ r : Nat, r < R → ∃ pb po, p' = some ⟨pb, po, none⟩ ∧ W9.cell? ⟨pb, po + r * 2, none⟩ = some (.int .i64 (spnF f r).lo) ∧ W9.cell? ⟨pb, po + r * 2 + 1, none⟩ = some (.int .i64 (spnF f r).hi)) := hidI fun r hr => by
    obtain ⟨pb, po, hp, d0, d1⟩ := pairGet HSl.out hb9 (i := r) (by have := Hrl.out; omega)
    have hx : (rngL f)[r]'(by have := Hrl.out; omega) = pairS f r := by simp [rngL]
    rw [hx] at d0 d1
    exact ⟨pb, po, hp, d0, d1⟩
  clear hW9 hb9 hAb hUb hcc2 hcf2 hc0 HU1 HS HSl HB1 HB2 HB12 hz1 hz2 hz3 hz11 e0 e2 hnil
  go_loopg [10] P (fun q s10 wr => ∃ r n : Nat, r ≤ P ∧ q = P - r ∧ s10 = .int .i64 r ∧ wr = W9.drewN n)
  case atStart => exact ⟨0, 0, by omega, rfl, rfl, rfl⟩
  case round =>
    obtain ⟨r, n, hr, rfl, rfl, rfl⟩ := hrel
    by_cases hlt : r < P
    · obtain ⟨pb, po, hp, d0, d1⟩ := HPg.out r (by omega)
      subst hp
      have hs := spnF_params HFo.out (r := r) (by have := HPn.out; omega)
      rw [hs] at d0 d1
      have hrR : r < R := by omega
      have zd := lt_of_cell d0
      replace d0 : W9.cell? ⟨pb, po + r * 2, none⟩ = some (.int .i64 (-9223372036854775808)) := d0
      replace d1 : W9.cell? ⟨pb, po + r * 2 + 1, none⟩ = some (.int .i64 9223372036854775807) := d1
      clear hs
      go_wp2_with fail
      go_quiet (fail)
      go_wp2_with fail
      go_roundg (P - (r + 1))
      case measure => omega
      case rel => exact ⟨r + 1, n + nq, by omega, rfl, by go_num, rfl⟩
    · obtain rfl : r = P := by omega
      go_wp2_with fail
      go_loopg [11] f.blocks.length (fun q s11 wr => ∃ b n : Nat, b ≤ f.blocks.length ∧ q = f.blocks.length - b ∧ s11 = .int .i64 b ∧ wr = W9.drewN n)
      case atStart => exact ⟨0, n, by omega, rfl, rfl, rfl⟩
      case round =>
        obtain ⟨b, n', hb, rfl, rfl, rfl⟩ := hrel
        by_cases hbl2 : b < f.blocks.length
        · obtain ⟨bb, bo, q1, c1, q2, c2', q3, c3, hfp, g0, g1, g2, g3, g4, g5, _, _, _, hl2, _, _, hIn, _⟩ := blkGet HS9.out (Below.refl _ _) hbl2
          subst hfp
          have zg := lt_of_cell g1
          have HIn := hidI hIn
          have HMem : Hid (∀ x ∈ f.blocks[b].list, ItS.ins x ∈ itsF f) := hidI fun x hx => List.mem_flatMap.2 ⟨_, List.getElem_mem hbl2, List.mem_append_right _ (List.mem_map_of_mem hx)⟩
          have HIr := hidI (HR'.out.ins b hbl2)
          clear hIn g0 g2 g3 g4 g5
          generalize f.blocks[b] = B at *
          go_wp2_with fail
          go_loopg [13] B.list.length (fun q s13 wr => ∃ i n : Nat, i ≤ B.list.length ∧ q = B.list.length - i ∧ s13 = .int .i64 i ∧ wr = W9.drewN n)
          case atStart => exact ⟨0, n', by omega, rfl, rfl, rfl⟩
          case round =>
            obtain ⟨i, m, hi, rfl, rfl, rfl⟩ := hrel
            by_cases hil : i < B.list.length
            · obtain ⟨ib, io, pq, pc, hiq, i0, i1, i2, i3, i4, i5, i6, i7, _, _, _, _, _, _, _⟩ := insGet HIn.out (Below.refl _ _) hil
              subst hiq
              have hM := HMem.out _ (List.getElem_mem hil)
              have hI := HIr.out _ (List.getElem_mem hil)
              have HM := hidI hM
              have HI := hidI hI
              have zi := lt_of_cell i0
              clear hM hI i2 i3 i4 i5 i6 i7
              generalize B.list[i] = x at *
              by_cases h17 : 17 < x.op
              · by_cases hd : 0 ≤ x.dst
                · obtain ⟨d, hdn⟩ : ∃ d : Nat, x.dst = d := ⟨x.dst.toNat, by omega⟩
                  have hdR : d < R := by have h1 := HI.out.2.2.1; have h2 := HRn.out; omega
                  obtain ⟨pb, po, hp, d0, d1⟩ := HPg.out d hdR
                  subst hp
                  have hs := spnF_outside HFo.out HM.out h17 hd
                  rw [hdn, Int.toNat_natCast] at hs
                  rw [hs] at d0 d1
                  rw [hdn] at i1
                  have zd := lt_of_cell d0
                  replace d0 : W9.cell? ⟨pb, po + d * 2, none⟩ = some (.int .i64 (-9223372036854775808)) := d0
                  replace d1 : W9.cell? ⟨pb, po + d * 2 + 1, none⟩ = some (.int .i64 9223372036854775807) := d1
                  clear hs hd hdn
                  go_wp2_with fail
                  go_quiet (fail)
                  go_wp2_with fail
                  go_roundg (B.list.length - (i + 1))
                  case measure => omega
                  case rel => exact ⟨i + 1, m + nq, by omega, rfl, by go_num, rfl⟩
                · have gd : decide (0 ≤ x.dst) = false := by simp; omega
                  go_wp2_with fail
                  go_quiet (fail)
                  go_wp2_with fail
                  go_roundg (B.list.length - (i + 1))
                  case measure => omega
                  case rel => exact ⟨i + 1, m + nq, by omega, rfl, by go_num, rfl⟩
              · have gd : decide (17 < x.op) = false := by simp; omega
                go_wp2_with fail
                go_quiet (fail)
                go_wp2_with fail
                go_roundg (B.list.length - (i + 1))
                case measure => omega
                case rel => exact ⟨i + 1, m + nq, by omega, rfl, by go_num, rfl⟩
            · obtain rfl : i = B.list.length := by omega
              go_wp2_with fail
              go_roundg (f.blocks.length - (b + 1))
              case measure => omega
              case rel => exact ⟨b + 1, m, by omega, rfl, by go_num, rfl⟩
        · obtain rfl : b = f.blocks.length := by omega
          go_wp2_with fail
          go_ret
          refine ⟨rfl, ?_⟩
          repeat (first | with_reducible exact HB9.out | with_reducible exact Below.refl _ _ | with_reducible refine Below.drew ?_ | with_reducible refine below_drewN ?_ _ | with_reducible refine Below.setCell ?_ ?_ _ | with_reducible refine Below.alloc ?_ ?_ _ | omega | (simp; omega) | simp)
theorem spa_all (u : UniL) (gp fp : Option Addr) (gc fc : Nat) (k : Int) (w : World) (hgl : u.globals.length * 48 ≤ 140737488351232) (hG : SliceAt w 3 (GloR w) gp u.globals) (hfl : u.funcs.length * 56 ≤ 140737488351232) (hF : SliceAt w 4 (FunR w) fp u.funcs) (hways : Ways w) (hA : AllW w) (_ : I64 k) :
    Calls Tryd.prog 4 #[.agg #[.slice gp u.globals.length gc, .slice fp u.funcs.length fc], .int .i64 k] w fun e w' => e = .returned (.bool true) ∧ Below w.heap.size w w' := by
  by_cases h : okU u = false ∨ k < 0 ∨ (u.funcs.length : Int) ≤ k
  · exact spa_bad u gp fp gc fc k w hgl hG hfl hF hways h
  · obtain ⟨n, rfl⟩ : ∃ n : Nat, k = n := ⟨k.toNat, by omega⟩
    exact spa_ok u gp fp gc fc n w hgl hG hfl hF hways hA (by cases hk : okU u; exact absurd (.inl hk) h; rfl) (by omega)
end Go.Proofs.YtdjamkinijhjoaaDoor
