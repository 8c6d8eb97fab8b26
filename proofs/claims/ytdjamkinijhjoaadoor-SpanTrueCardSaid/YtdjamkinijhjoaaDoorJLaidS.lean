/-
  The walk of SpanParams: it tells true.
  The walk of SpanTrue: it tells true.
  The listed variable code.ways: what the row's condition gives the walks; the door's own heap meets it.
  The listed variables code.ways and span.all: what the row's condition gives the walks; the door's own heap meets it.
-/
import Derived.WalkKit
import Derived.WalkSpells
import Derived.WalkLawsBesides
import Derived.Test.YtdjamkinijhjoaaDoorJCopB
import Derived.Deep.LoopGhost
import Derived.BigQuiet
import Derived.Deep.QuietTactic
import Derived.Test.YtdjamkinijhjoaaDoorJWatB
import Derived.Test.YtdjamkinijhjoaaDoorWatC
import Derived.Test.YtdjamkinijhjoaaDoorRows
import Derived.ProofKit
import Derived.LaidMore
import Derived.OpenShut
import Derived.Stop.Joined
import Derived.LaidHandle
import Derived.Test.YtdjamkinijhjoaaDoorChkD
import Derived.Test.YtdjamkinijhjoaaDoorJSpnA
namespace Go.Proofs.YtdjamkinijhjoaaDoor
open Go.RowKit Go.Shelf

theorem okU_none (u : UniL) (k : Int) (gp fp : Option Addr) (gc fc : Nat) (w : World) (hgl : u.globals.length * 48 ≤ 140737488351232) (hG : SliceAt w 3 (GloR w) gp u.globals) (hfl : u.funcs.length * 56 ≤ 140737488351232) (hF : SliceAt w 4 (FunR w) fp u.funcs) (hways : Ways w) (h : okU u = false ∨ k < 0 ∨ (u.funcs.length : Int) ≤ k) :
  ∃ c a : Int, c ≠ 0 ∧ Calls Tryd.prog 9 #[.agg #[.slice gp u.globals.length gc, .slice fp u.funcs.length fc], .int .i64 k] w fun e w' => e = .returned (.tuple #[.slice none 0 0, .agg #[.int .i64 c, .int .i64 a]]) ∧ Below w.heap.size w w' := by
 cases hok : okU u
 ·exact ⟨_, _, okU_false hok, spanOf_bad u k gp fp gc fc w hgl hG hfl hF hways hok⟩
 ·exact ⟨_, _, (by decide : (3 : Int) ≠ 0), spanOf_range u k gp fp gc fc w hgl hG hfl hF hways hok (h.resolve_left (by rw [hok]; decide))⟩
end Go.Proofs.YtdjamkinijhjoaaDoor
namespace Go.Proofs.YtdjamkinijhjoaaDoor
open Go.RowKit Go.Shelf

theorem mem_sum : ∀ {l : List Nat} {x : Nat}, x ∈ l → x ≤ l.sum
 | y :: l, x, h => by
  rw [List.sum_cons]
  rcases List.mem_cons.1 h with e | h
  ·omega
  ·have := mem_sum h
   omega
set_option maxRecDepth 100000 in
set_option maxHeartbeats 4000000 in
theorem tru_bad (u : UniL) (gp fp : Option Addr) (gc fc : Nat) (k r : Int) (xs : List Int) (lp : Option Addr) (lc : Nat) (fuel : Int) (w : World) (hgl : u.globals.length * 48 ≤ 140737488351232) (hG : SliceAt w 3 (GloR w) gp u.globals) (hfl : u.funcs.length * 56 ≤ 140737488351232) (hF : SliceAt w 4 (FunR w) fp u.funcs) (hways : Ways w) (hbad : okU u = false ∨ k < 0 ∨ (u.funcs.length : Int) ≤ k) :
  Calls Tryd.prog 7 #[.agg #[.slice gp u.globals.length gc, .slice fp u.funcs.length fc], .int .i64 k, .int .i64 r, .slice lp xs.length lc, .int .i64 fuel] w fun e w' => e = .returned (.bool true) ∧ Below w.heap.size w w' := by
 have HG := hidI hG
 have HF := hidI hF
 have HW := hidI hways
 have HBad := hidI hbad
 clear hG hF hways hbad
 go_enter Tryd.func7, Tryd.ntmps7
 go_wp2_with fail
 obtain ⟨c1, a1, h1, hO1⟩ := okU_none u k gp fp gc fc (w.alloc (.cells #[.slice gp u.globals.length gc, .slice fp u.funcs.length fc] 25)) hgl (glosMono HG.out (by repeat (first | (with_reducible first | exact bR _ _ | exact bH ‹_› | refine bD ?_ | refine bN ?_ _ | refine bS ?_ ?_ _ | refine bA ?_ ?_ _ | refine bT hb3 ?_ ?_ | refine bT hb5 ?_ ?_ | refine bT hb4 ?_ ?_) | omega | (simp; omega) | simp))) hfl (funsMono HF.out (by repeat (first | (with_reducible first | exact bR _ _ | exact bH ‹_› | refine bD ?_ | refine bN ?_ _ | refine bS ?_ ?_ _ | refine bA ?_ ?_ _ | refine bT hb3 ?_ ?_ | refine bT hb5 ?_ ?_ | refine bT hb4 ?_ ?_) | omega | (simp; omega) | simp))) (HW.out.below (by repeat (first | (with_reducible first | exact bR _ _ | exact bH ‹_› | refine bD ?_ | refine bN ?_ _ | refine bS ?_ ?_ _ | refine bA ?_ ?_ _ | refine bT hb3 ?_ ?_ | refine bT hb5 ?_ ?_ | refine bT hb4 ?_ ?_) | omega | (simp; omega) | simp))) HBad.out
 refine hO1.mono ?_
 rintro e w1 ⟨rfl, hb1⟩
 have HB1 : Hid (Below w.heap.size w w1) := Below.trans (by repeat (first | (with_reducible first | exact bR _ _ | exact bH ‹_› | refine bD ?_ | refine bN ?_ _ | refine bS ?_ ?_ _ | refine bA ?_ ?_ _ | refine bT hb3 ?_ ?_ | refine bT hb5 ?_ ?_ | refine bT hb4 ?_ ?_) | omega | (simp; omega) | simp)) (hb1.mono (by simp))
 have hc0 := fun o => (blk (heap_below hb1 (k := w.heap.size) (by simp) (heap_here w _))).1 o
 have hz1 : w.heap.size < w1.heap.size := by have := hb1.size; simp at this; omega
 have hn1 : (c1 != 0) = true := by simp [h1]
 have hn1' : (c1 == 0) = false := by simp [h1]
 clear hb1 hO1
 go_wp2_with fail
 obtain ⟨c2, a2, h2, hO2⟩ := okU_none u (-1) gp fp gc fc (w1.alloc (.cells #[.int .i64 c1, .int .i64 a1] 28)) hgl (glosMono HG.out (by repeat (first | (with_reducible first | exact bR _ _ | exact bH ‹_› | refine bD ?_ | refine bN ?_ _ | refine bS ?_ ?_ _ | refine bA ?_ ?_ _ | refine bT hb3 ?_ ?_ | refine bT hb5 ?_ ?_ | refine bT hb4 ?_ ?_) | omega | (simp; omega) | simp))) hfl (funsMono HF.out (by repeat (first | (with_reducible first | exact bR _ _ | exact bH ‹_› | refine bD ?_ | refine bN ?_ _ | refine bS ?_ ?_ _ | refine bA ?_ ?_ _ | refine bT hb3 ?_ ?_ | refine bT hb5 ?_ ?_ | refine bT hb4 ?_ ?_) | omega | (simp; omega) | simp))) (HW.out.below (by repeat (first | (with_reducible first | exact bR _ _ | exact bH ‹_› | refine bD ?_ | refine bN ?_ _ | refine bS ?_ ?_ _ | refine bA ?_ ?_ _ | refine bT hb3 ?_ ?_ | refine bT hb5 ?_ ?_ | refine bT hb4 ?_ ?_) | omega | (simp; omega) | simp))) (.inr (.inl (by omega)))
 refine hO2.mono ?_
 rintro e w2 ⟨rfl, hb2⟩
 have HB2 : Hid (Below w.heap.size w w2) := Below.trans (by repeat (first | (with_reducible first | exact bR _ _ | exact bH ‹_› | refine bD ?_ | refine bN ?_ _ | refine bS ?_ ?_ _ | refine bA ?_ ?_ _ | refine bT hb3 ?_ ?_ | refine bT hb5 ?_ ?_ | refine bT hb4 ?_ ?_) | omega | (simp; omega) | simp)) (hb2.mono (by simp; omega))
 have hz2 : w.heap.size < w2.heap.size := by have := hb2.size; simp at this; omega
 have hz3 : w1.heap.size < w2.heap.size := by have := hb2.size; simp at this; omega
 obtain ⟨hcc2, hcf2, _⟩ := bcell hb2
 have hn2 : (c2 == 0) = false := by simp [h2]
 have hz11 : w1.heap.size < w2.heap.size + 1 := by omega
 clear hb2 hO2
 go_wp2_with fail
 go_ret
 refine ⟨rfl, ?_⟩
 repeat (first | (with_reducible first | exact bR _ _ | exact bH ‹_› | refine bD ?_ | refine bN ?_ _ | refine bS ?_ ?_ _ | refine bA ?_ ?_ _ | refine bT hb3 ?_ ?_ | refine bT hb5 ?_ ?_ | refine bT hb4 ?_ ?_) | omega | (simp; omega) | simp)
set_option maxRecDepth 100000 in
set_option maxHeartbeats 8000000 in
theorem tru_ok (u : UniL) (gp fp : Option Addr) (gc fc : Nat) (k : Nat) (r : Int) (xs : List Int) (lp : Option Addr) (lc : Nat) (fuel : Int) (w : World) (hG : SlF w 3 48 (GloR w) (.slice gp u.globals.length gc) u.globals) (hF : SlF w 4 56 (FunR w) (.slice fp u.funcs.length fc) u.funcs) (hways : Ways w) (hA : AllW w) (hr : I64 r)
  (hln : lp = none → xs.length = 0 ∧ lc = 0) (hlc : xs.length ≤ lc) (hls : SliceAt w 1 IntR lp xs) (hok : okU u = true) (hk : k < u.funcs.length) :
  Calls Tryd.prog 7 #[.agg #[.slice gp u.globals.length gc, .slice fp u.funcs.length fc], .int .i64 k, .int .i64 r, .slice lp xs.length lc, .int .i64 fuel] w fun e w' => e = .returned (.bool true) ∧ Below w.heap.size w w' := by
 have hgl : u.globals.length * 48 ≤ 140737488351232 := hG.bdC
 have hfl : u.funcs.length * 56 ≤ 140737488351232 := hF.bdC
 have hGs : SliceAt w 3 (GloR w) gp u.globals := by obtain ⟨_, _, e, _, _, h⟩ := hG.outC; cases e; exact h
 have hFs : SliceAt w 4 (FunR w) fp u.funcs := by obtain ⟨_, _, e, _, _, h⟩ := hF.outC; cases e; exact h
 have hck := okU_chk hok
 have hfo : ∀ i (hi : i < u.funcs.length), FunOk u.funcs[i] := fun i hi => by
  obtain ⟨_, _, _, _, _, _, _, _, _, _, _, _, _, hbs⟩ := funGet hFs (Below.refl _ _) hi
  exact funOk_of (hck.funR hi) hbs
 have HFT : Hid (∀ i, i < u.funcs.length → FunT (fnU u i)) := hidI fun i hi => okU_funT hok hi (hfo i hi)
 have HCk := hidI hck
 have HGf := hidI hG
 have HFf := hidI hF
 have HG := hidI hGs
 have HF := hidI hFs
 have HW := hidI hways
 have HA := hidI hA
 have HOk := hidI hok
 have Hr := hidI hr
 have HLn := hidI hln
 have HLs := hidI hls
 have HX64 : Hid (∀ x ∈ xs, I64 x) := hidI fun x hx => by
  obtain ⟨cs, h⟩ := slice_mem hls hx
  exact h.2
 have HR' := hidI (hck.funR hk)
 clear hG hF hways hok hA hfo hck hGs hFs hr hln hls
 go_enter Tryd.func7, Tryd.ntmps7
 go_wp2_with fail
 refine (spanOf_ok u k _ _ _ _ _ hgl (glosMono HG.out (by repeat (first | (with_reducible first | exact bR _ _ | exact bH ‹_› | refine bD ?_ | refine bN ?_ _ | refine bS ?_ ?_ _ | refine bA ?_ ?_ _ | refine bT hb3 ?_ ?_ | refine bT hb5 ?_ ?_ | refine bT hb4 ?_ ?_) | omega | (simp; omega) | simp))) hfl (funsMono HF.out (by repeat (first | (with_reducible first | exact bR _ _ | exact bH ‹_› | refine bD ?_ | refine bN ?_ _ | refine bS ?_ ?_ _ | refine bA ?_ ?_ _ | refine bT hb3 ?_ ?_ | refine bT hb5 ?_ ?_ | refine bT hb4 ?_ ?_) | omega | (simp; omega) | simp))) (HW.out.below (by repeat (first | (with_reducible first | exact bR _ _ | exact bH ‹_› | refine bD ?_ | refine bN ?_ _ | refine bS ?_ ?_ _ | refine bA ?_ ?_ _ | refine bT hb3 ?_ ?_ | refine bT hb5 ?_ ?_ | refine bT hb4 ?_ ?_) | omega | (simp; omega) | simp))) (HA.out.below (by repeat (first | (with_reducible first | exact bR _ _ | exact bH ‹_› | refine bD ?_ | refine bN ?_ _ | refine bS ?_ ?_ _ | refine bA ?_ ?_ _ | refine bT hb3 ?_ ?_ | refine bT hb5 ?_ ?_ | refine bT hb4 ?_ ?_) | omega | (simp; omega) | simp))) HOk.out hk).mono ?_
 rintro e w1 ⟨v, S, rfl, hO1, hS1, hb1⟩
 have HB1 : Hid (Below w.heap.size w w1) := Below.trans (by repeat (first | (with_reducible first | exact bR _ _ | exact bH ‹_› | refine bD ?_ | refine bN ?_ _ | refine bS ?_ ?_ _ | refine bA ?_ ?_ _ | refine bT hb3 ?_ ?_ | refine bT hb5 ?_ ?_ | refine bT hb4 ?_ ?_) | omega | (simp; omega) | simp)) (hb1.mono (by simp))
 have hU1 := heap_below hb1 (k := w.heap.size) (by simp) (heap_here w _)
 have hc0 := fun o => (blk hU1).1 o
 have HU1 := hidI hU1
 have hz1 : w.heap.size < w1.heap.size := by have := hb1.size; simp at this; omega
 have HO1 := hidI hO1
 clear hb1 hO1 hS1 hU1
 obtain ⟨p, c, rfl, hnil, hcap⟩ := HO1.out.val
 go_wp2_with fail
 refine (spanOf_range u _ _ _ _ _ _ hgl (glosMono HG.out (by repeat (first | (with_reducible first | exact bR _ _ | exact bH ‹_› | refine bD ?_ | refine bN ?_ _ | refine bS ?_ ?_ _ | refine bA ?_ ?_ _ | refine bT hb3 ?_ ?_ | refine bT hb5 ?_ ?_ | refine bT hb4 ?_ ?_) | omega | (simp; omega) | simp))) hfl (funsMono HF.out (by repeat (first | (with_reducible first | exact bR _ _ | exact bH ‹_› | refine bD ?_ | refine bN ?_ _ | refine bS ?_ ?_ _ | refine bA ?_ ?_ _ | refine bT hb3 ?_ ?_ | refine bT hb5 ?_ ?_ | refine bT hb4 ?_ ?_) | omega | (simp; omega) | simp))) (HW.out.below (by repeat (first | (with_reducible first | exact bR _ _ | exact bH ‹_› | refine bD ?_ | refine bN ?_ _ | refine bS ?_ ?_ _ | refine bA ?_ ?_ _ | refine bT hb3 ?_ ?_ | refine bT hb5 ?_ ?_ | refine bT hb4 ?_ ?_) | omega | (simp; omega) | simp))) HOk.out (.inl (by omega))).mono ?_
 rintro e w2 ⟨rfl, hb2⟩
 have HB2 : Hid (Below w.heap.size w w2) := Below.trans (by repeat (first | (with_reducible first | exact bR _ _ | exact bH ‹_› | refine bD ?_ | refine bN ?_ _ | refine bS ?_ ?_ _ | refine bA ?_ ?_ _ | refine bT hb3 ?_ ?_ | refine bT hb5 ?_ ?_ | refine bT hb4 ?_ ?_) | omega | (simp; omega) | simp)) (hb2.mono (by simp; omega))
 have hz2 : w.heap.size < w2.heap.size := by have := hb2.size; simp at this; omega
 have hz3 : w1.heap.size < w2.heap.size := by have := hb2.size; simp at this; omega
 have HB12 := hidI (show Below w1.heap.size w1 w2 from Below.trans (by repeat (first | (with_reducible first | exact bR _ _ | exact bH ‹_› | refine bD ?_ | refine bN ?_ _ | refine bS ?_ ?_ _ | refine bA ?_ ?_ _ | refine bT hb3 ?_ ?_ | refine bT hb5 ?_ ?_ | refine bT hb4 ?_ ?_) | omega | (simp; omega) | simp)) (hb2.mono (by simp)))
 obtain ⟨hcc2, hcf2, _⟩ := bcell hb2
 have hz11 : w1.heap.size < w2.heap.size + 1 := by omega
 clear hb2
 have hrl : (rngL u.funcs[k]).length = u.funcs[k].regs.toNat := by simp [rngL]
 obtain ⟨p', c', hpv, _, _, hsl⟩ := (HO1.out.below locPair HB12.out).read (R' := PairR) locPair (by omega) (fun _ _ _ h => h.1)
 have HSl := hidI hsl
 have hpp : p' = p := by injection hpv with h _ _; exact h.symm
 subst hpp
 have hR1 := HR'.out.par
 have hR2 := HR'.out.reg
 obtain ⟨R, hRn⟩ : ∃ R : Nat, u.funcs[k].regs.toNat = R := ⟨_, rfl⟩
 have hrl2 : (rngL u.funcs[k]).length = R := hrl.trans hRn
 have Hrl := hidI hrl2
 rw [hrl2] at hnil hcap ⊢
 have hR100 : R ≤ 100 := by omega
 clear hsl hpv hrl hrl2 HO1
 by_cases hrr : r < 0 ∨ (R : Int) ≤ r
 ·by_cases hr0 : r < 0
  ·have t1 : decide (r < 0) = true := by simp; omega
   go_wp2_with fail
   go_ret
   refine ⟨rfl, ?_⟩
   repeat (first | (with_reducible first | exact bR _ _ | exact bH ‹_› | refine bD ?_ | refine bN ?_ _ | refine bS ?_ ?_ _ | refine bA ?_ ?_ _ | refine bT hb3 ?_ ?_ | refine bT hb5 ?_ ?_ | refine bT hb4 ?_ ?_) | omega | (simp; omega) | simp)
  ·have t1 : decide (r < 0) = false := by simp; omega
   have t2 : decide ((R : Int) ≤ r) = true := by simp; omega
   go_wp2_with fail
   go_ret
   refine ⟨rfl, ?_⟩
   repeat (first | (with_reducible first | exact bR _ _ | exact bH ‹_› | refine bD ?_ | refine bN ?_ _ | refine bS ?_ ?_ _ | refine bA ?_ ?_ _ | refine bT hb3 ?_ ?_ | refine bT hb5 ?_ ?_ | refine bT hb4 ?_ ?_) | omega | (simp; omega) | simp)
 ·obtain ⟨ρ, rfl⟩ : ∃ ρ : Nat, r = ρ := ⟨r.toNat, by omega⟩
  have hρ : ρ < R := by omega
  have t1 : decide ((ρ : Int) < 0) = false := by simp
  have t2 : decide (R ≤ ρ) = false := by simp; omega
  go_wp2_with fail
  have hbw : Below w.heap.size w (w2.alloc (.cells #[.int .i64 3, .int .i64 (-1)] 28)) := by repeat (first | (with_reducible first | exact bR _ _ | exact bH ‹_› | refine bD ?_ | refine bN ?_ _ | refine bS ?_ ?_ _ | refine bA ?_ ?_ _ | refine bT hb3 ?_ ?_ | refine bT hb5 ?_ ?_ | refine bT hb4 ?_ ?_) | omega | (simp; omega) | simp)
  refine (watched_any u k ρ gp fp gc fc _ (HGf.out.mono hbw (by omega) fun _ _ h => h.below hbw) (HFf.out.mono hbw (by omega) fun _ _ h => h.below hbw) Hr.out (by omega) (by have := HCk.out.nf; omega) (fun i hi => (HCk.out.funR hi).n1) (fun i hi b hb => by
   have h1 := (HCk.out.fn hi).2.2.2
   have h2 := mem_sum (l := (u.funcs[i]).blocks.map fun b => b.phis.length + b.list.length) (List.mem_map.2 ⟨b, hb, rfl⟩)
   unfold manyL at h1
   omega)).mono ?_
  rintro e w3 ⟨⟨p1, c1, p2, c2, fd, rfl, hGr, hFr⟩, hb3⟩
  have HB3 : Hid (Below w.heap.size w w3) := Below.trans hbw (hb3.mono (by simp; omega))
  have HB23 := hidI (show Below w2.heap.size w2 w3 from Below.trans (by repeat (first | (with_reducible first | exact bR _ _ | exact bH ‹_› | refine bD ?_ | refine bN ?_ _ | refine bS ?_ ?_ _ | refine bA ?_ ?_ _ | refine bT hb3 ?_ ?_ | refine bT hb5 ?_ ?_ | refine bT hb4 ?_ ?_) | omega | (simp; omega) | simp)) (hb3.mono (by simp)))
  have HGr := hidI hGr
  have HFr := hidI hFr
  obtain ⟨hcc3, hcf3, _⟩ := bcell hb3
  have hz4 : w.heap.size < w3.heap.size := by have := hb3.size; simp at this; omega
  have hz5 : w1.heap.size < w3.heap.size := by have := hb3.size; simp at this; omega
  have hz6 : w2.heap.size < w3.heap.size := by have := hb3.size; simp at this; omega
  clear hb3 hbw hGr hFr
  cases fd with
  | false =>
   go_wp2_with fail
   go_ret
   refine ⟨rfl, ?_⟩
   repeat (first | (with_reducible first | exact bR _ _ | exact bH ‹_› | refine bD ?_ | refine bN ?_ _ | refine bS ?_ ?_ _ | refine bA ?_ ?_ _ | refine bT hb3 ?_ ?_ | refine bT hb5 ?_ ?_ | refine bT hb4 ?_ ?_) | omega | (simp; omega) | simp)
  | true =>
   go_wp2_with fail
   have hb4 : Below w3.heap.size w3 (w3.alloc (.cells #[.slice p1 u.globals.length c1, .slice p2 u.funcs.length c2] 25)) := by repeat (first | (with_reducible first | exact bR _ _ | exact bH ‹_› | refine bD ?_ | refine bN ?_ _ | refine bS ?_ ?_ _ | refine bA ?_ ?_ _ | refine bT hb3 ?_ ?_ | refine bT hb5 ?_ ?_ | refine bT hb4 ?_ ?_) | omega | (simp; omega) | simp)
   obtain ⟨W4, hW4⟩ : ∃ W4, W4 = w3.alloc (.cells #[.slice p1 u.globals.length c1, .slice p2 u.funcs.length c2] 25) := ⟨_, rfl⟩
   rw [← hW4] at hb4 ⊢
   have HB4 := hidI (HB3.out.trans (hb4.mono HB3.out.size))
   have HB24 := hidI (HB23.out.trans (hb4.mono HB23.out.size))
   have hUn : UnA (watU u k ρ) p1 p2 W4 := ⟨hgl, glosMono HGr.out hb4, by rw [wat_len]; exact hfl, funsMono HFr.out hb4, HW.out.below HB4.out⟩
   have HUn := hidI hUn
   have hdo := do_any hUn (gc := c1) (fc := c2) xs lp lc fuel (HLs.out.mono HB4.out (by omega) fun _ _ g => g) hlc (fun h => (HLn.out h).2)
   rw [wat_len] at hdo
   clear hW4 hb4 hUn
   refine hdo.mono ?_
   rintro e w5 ⟨q, qc, rfl, hOut, hlow, hb5⟩
   clear hdo
   obtain ⟨outs, houts⟩ : ∃ o, o = (runO (watU u k ρ) xs fuel).outs := ⟨_, rfl⟩
   obtain ⟨st, hst⟩ : ∃ o, o = (runO (watU u k ρ) xs fuel).state := ⟨_, rfl⟩
   obtain ⟨vl, hvl⟩ : ∃ o, o = (runO (watU u k ρ) xs fuel).value := ⟨_, rfl⟩
   obtain ⟨sp, hsp⟩ : ∃ o, o = (runO (watU u k ρ) xs fuel).steps := ⟨_, rfl⟩
   obtain ⟨f1, hf1⟩ : ∃ o, o = (runF (watU u k ρ) xs.length fuel).1 := ⟨_, rfl⟩
   obtain ⟨f2, hf2⟩ : ∃ o, o = (runF (watU u k ρ) xs.length fuel).2 := ⟨_, rfl⟩
   rw [← houts] at hOut
   rw [← houts, ← hst, ← hvl, ← hsp, ← hf1, ← hf2]
   have HB5 := hidI (HB4.out.trans (hb5.mono HB4.out.size))
   have HB25 := hidI (HB24.out.trans (hb5.mono HB24.out.size))
   have HOut := hidI hOut
   have HOe := hidI houts
   have HFe := hidI hf1
   clear hOut hlow hb5 houts hst hvl hsp hf1 hf2
   by_cases hc : f1 = 0
   ·subst hc
    have hz : (runF (watU u k ρ) xs.length fuel).1 = 0 := HFe.out.symm
    have hwat : Wat u k ρ := ⟨HFT.out, ⟨(chk_ok (runF_zero hz).1).2, U64.of HUn.out⟩, by omega⟩
    have hrun : ∀ x ∈ outs, InS (spnF u.funcs[k] ρ) x := by
     have h := hwat.run HX64.out fuel.toNat
     rw [fnU_get hk, Int.toNat_natCast] at h
     have e : outs = (runU (watU u k ρ) xs fuel.toNat).outs := by rw [HOe.out]; unfold runO; rw [if_pos hz]
     rw [e]
     exact h
    have hfew : outs.length ≤ 200 := by
     have e : outs = (runU (watU u k ρ) xs fuel.toNat).outs := by rw [HOe.out]; unfold runO; rw [if_pos hz]
     rw [e]
     exact hwat.few HX64.out fuel.toNat
    have HRun := hidI hrun
    clear hz hwat hrun
    obtain ⟨pb, po, hp, d0, d1⟩ := pairGet HSl.out HB25.out (i := ρ) (by have := Hrl.out; omega)
    have hx : (rngL u.funcs[k])[ρ]'(by have := Hrl.out; omega) = pairS u.funcs[k] ρ := by simp [rngL]
    rw [hx] at d0 d1
    simp only [pairS] at d0 d1
    subst hp
    generalize hsp : spnF u.funcs[k] ρ = sp' at *
    have HD0 := hidI d0
    have HD1 := hidI d1
    clear hx d0 d1 hsp
    have hne : ((0 : Int) != 0) = false := rfl
    go_wp2_with fail
    obtain ⟨W6, hW6⟩ : ∃ W6, W6 = (w5.alloc (.cells #[.int .i64 st, .int .i64 vl, .slice q outs.length qc, .int .i64 sp] 65)).alloc (.cells #[.int .i64 0, .int .i64 f2] 28) := ⟨_, rfl⟩
    rw [← hW6]
    have hb6 : Below w5.heap.size w5 W6 := by rw [hW6]; repeat (first | (with_reducible first | exact bR _ _ | exact bH ‹_› | refine bD ?_ | refine bN ?_ _ | refine bS ?_ ?_ _ | refine bA ?_ ?_ _ | refine bT hb3 ?_ ?_ | refine bT hb5 ?_ ?_ | refine bT hb4 ?_ ?_) | omega | (simp; omega) | simp)
    have hob : W6.heap[w5.heap.size]? = some (.cells #[.int .i64 st, .int .i64 vl, .slice q outs.length qc, .int .i64 sp] 65 (0, 0)) := by rw [hW6]; exact heap_step (heap_here w5 _)
    have o2 := (blk hob).1 2
    have oz := ltHeap hob
    simp only [List.getElem?_toArray, List.getElem?_cons_zero, List.getElem?_cons_succ] at o2
    have d0 := (hb6.cell (p := ⟨pb, po + ρ * 2, none⟩) (lt_of_cell HD0.out)).trans HD0.out
    have d1 := (hb6.cell (p := ⟨pb, po + ρ * 2 + 1, none⟩) (lt_of_cell HD1.out)).trans HD1.out
    have zd := lt_of_cell d0
    have HB6 := hidI (HB5.out.trans (hb6.mono HB5.out.size))
    have HOut6 := hidI (HOut.out.mono hb6 (by omega) fun _ _ g => g)
    have hρR : ρ < R := hρ
    clear hW6 hb6 hob HD0 HD1 HOut hcc2 hcc3 hcf2 hcf3 hc0
    go_loopg [19] outs.length (fun q s19 wr => ∃ i m : Nat, i ≤ outs.length ∧ q = outs.length - i ∧ s19 = .int .i64 i ∧ wr = W6.drewN m)
    case atStart => exact ⟨0, 0, by omega, rfl, rfl, rfl⟩
    case round =>
     obtain ⟨i, m, hi, rfl, rfl, rfl⟩ := hrel
     by_cases hil : i < outs.length
     ·obtain ⟨ob, oo, hq, x0, _⟩ := intGet HOut6.out (Below.refl _ _) hil
      subst hq
      obtain ⟨_, i1, i2⟩ := HRun.out _ (List.getElem_mem hil)
      have zx := lt_of_cell x0
      generalize outs[i] = x at *
      have g1 : decide (x < sp'.lo) = false := by simp; omega
      have g2 : decide (sp'.hi < x) = false := by simp; omega
      go_wp2_with fail
      go_quiet (fail)
      go_wp2_with fail
      go_roundg (outs.length - (i + 1))
      case measure => omega
      case rel => exact ⟨i + 1, m + nq, by omega, rfl, by go_num, rfl⟩
     ·obtain rfl : i = outs.length := by omega
      go_wp2_with fail
      go_ret
      refine ⟨rfl, ?_⟩
      have := HB6.out.size
      repeat (first | with_reducible exact HB6.out | with_reducible exact Below.refl _ _ | with_reducible refine Below.drew ?_ | with_reducible refine below_drewN ?_ _ | with_reducible refine Below.setCell ?_ ?_ _ | with_reducible refine Below.alloc ?_ ?_ _ | omega | (simp; omega) | simp)
   ·have hn1 : (f1 != 0) = true := by simp [hc]
    have hn2 : (f1 == 0) = false := by simp [hc]
    go_wp2_with fail
    go_ret
    refine ⟨rfl, ?_⟩
    have := HB5.out.size
    repeat (first | with_reducible exact HB5.out | with_reducible exact Below.refl _ _ | with_reducible refine Below.drew ?_ | with_reducible refine below_drewN ?_ _ | with_reducible refine Below.setCell ?_ ?_ _ | with_reducible refine Below.alloc ?_ ?_ _ | omega | (simp; omega) | simp)
theorem tru_all (u : UniL) (gp fp : Option Addr) (gc fc : Nat) (k r : Int) (xs : List Int) (lp : Option Addr) (lc : Nat) (fuel : Int) (w : World) (hG : SlF w 3 48 (GloR w) (.slice gp u.globals.length gc) u.globals) (hF : SlF w 4 56 (FunR w) (.slice fp u.funcs.length fc) u.funcs) (hways : Ways w) (hA : AllW w) (_ : I64 k) (hr : I64 r)
  (hln : lp = none → xs.length = 0 ∧ lc = 0) (hlc : xs.length ≤ lc) (_ : lc * 8 ≤ reachBytes) (hls : SliceAt w 1 IntR lp xs) (_ : I64 fuel) :
  Calls Tryd.prog 7 #[.agg #[.slice gp u.globals.length gc, .slice fp u.funcs.length fc], .int .i64 k, .int .i64 r, .slice lp xs.length lc, .int .i64 fuel] w fun e w' => e = .returned (.bool true) ∧ Below w.heap.size w w' := by
 have hgl : u.globals.length * 48 ≤ 140737488351232 := hG.bdC
 have hfl : u.funcs.length * 56 ≤ 140737488351232 := hF.bdC
 have hGs : SliceAt w 3 (GloR w) gp u.globals := by obtain ⟨_, _, e, _, _, h⟩ := hG.outC; cases e; exact h
 have hFs : SliceAt w 4 (FunR w) fp u.funcs := by obtain ⟨_, _, e, _, _, h⟩ := hF.outC; cases e; exact h
 by_cases h : okU u = false ∨ k < 0 ∨ (u.funcs.length : Int) ≤ k
 ·exact tru_bad u gp fp gc fc k r xs lp lc fuel w hgl hGs hfl hFs hways h
 ·obtain ⟨n, rfl⟩ : ∃ n : Nat, k = n := ⟨k.toNat, by omega⟩
  exact tru_ok u gp fp gc fc n r xs lp lc fuel w hG hF hways hA hr hln hlc hls (by cases hk : okU u; exact absurd (.inl hk) h; rfl) (by omega)
end Go.Proofs.YtdjamkinijhjoaaDoor
namespace Go.Proofs.YtdjamkinijhjoaaDoor
open Go.ChangeShapes Go.WideShapes Go.ChangeAt Go.RowKit

theorem tWays : (Tryd.prog.globals[1]?).map (·.type) = some 172 := by kernel_rfl
theorem own : ownKnob Tryd.prog.godebug = none := by kernel_rfl
theorem laidOut : laidOutB Tryd.prog = true := by kernel_rfl
end Go.Proofs.YtdjamkinijhjoaaDoor
namespace Go.Proofs.YtdjamkinijhjoaaDoor
open Go.ChangeShapes Go.WideShapes Go.ChangeAt Go.RowKit

def laidSpan : List (String × DataW Unit) := Rows.spanOfSaysRow.laid
def nameS0 : String := (Rows.spanOfSaysRow.laid.map (·.1)).headD ""
def nameS1 : String := (Rows.spanOfSaysRow.laid.map (·.1)).getD 1 ""
theorem gS0 : Tryd.prog.globalNamed nameS0 = some 1 := by kernel_rfl
theorem gS1 : Tryd.prog.globalNamed nameS1 = some 0 := by kernel_rfl
theorem tS1 : (Tryd.prog.globals[0]?).map (·.type) = some 74 := by kernel_rfl
theorem door_span (os : Os) (args : Array Value) : laidMetH Tryd.prog laidSpan ((World.doorLaid Tryd.prog 400 os).forCall (fun _ _ => 0) ⟨#[], args, []⟩).memory :=
 laidMetH_of_parts3 (fuel := 8) (laidMet_of_run' 8 (by kernel_rfl) (by kernel_rfl)) (by kernel_rfl) (by kernel_rfl)

theorem span_of_laid {W : World} (h : laidMetH Tryd.prog laidSpan W) : Ways W ∧ AllW W := by
 rw [MakeChecks.laidMetH_plain _ _ _ (by kernel_rfl)] at h
 obtain ⟨ps, ⟨g1, t1, cs1, f1, p1, q1, hg1, ht1, hv1, hd1, ⟨g2, t2, cs2, f2, p2, q2, hg2, ht2, hv2, hd2, _, _⟩, _⟩, _, _⟩ := h
 obtain rfl := Option.some.inj (gS0.symm.trans hg1)
 obtain rfl := Option.some.inj (tWays.symm.trans ht1)
 obtain rfl := Option.some.inj (gS1.symm.trans hg2)
 obtain rfl := Option.some.inj (tS1.symm.trans ht2)
 have c3 : Tryd.prog.cellsOf 3 = 1 := by kernel_rfl
 have one : ∀ (m : Nat) (a : Value) (x : DataW Unit × List MemPlace) (n : Int), DataW.trod (fun _ => ()) Tryd.prog W 0 (fun _ => true) false m 3 [a] = some x → DataW.lit (.int .i64 n) = x.1 → a = .int .i64 n := fun m a x n h e => by
  obtain ⟨k, e1, e2, _⟩ := DataW.trod_int Tryd.underlying3 (show DataW.trod _ Tryd.prog W 0 _ false m 3 _ = some x from h)
  rw [e2] at e
  simp at e e1
  rw [e1, e]
 refine ⟨?_, ?_⟩
 ·obtain ⟨xs, m1, rfl, hx1, hlen, hn4, hel⟩ := DataW.trod_array Tryd.underlying172 hd1
  have c4 : Tryd.prog.cellsOf 172 = 4 := by kernel_rfl
  rw [c4] at hlen
  obtain ⟨l1⟩ := cs1
  obtain ⟨a0, a1, a2, a3, rfl⟩ := len_4 (show l1.length = 4 from hlen)
  obtain ⟨x0, x1, x2, x3, rfl⟩ := len_4 hn4
  simp only [Rows.laid_turnery_code_ways, List.map_cons, List.map_nil, Prod.mk.injEq, DataW.agg.injEq, List.cons.injEq] at hx1
  rw [c3] at hel
  have hv := World.var?_cell hg1 hv1
  obtain ⟨⟨e0, e1, e2, e3, _⟩, _⟩ := hx1
  obtain rfl := one m1 a0 x0 0 (hel 0 (by decide)) e0
  obtain rfl := one m1 a1 x1 0 (hel 1 (by decide)) e1
  obtain rfl := one m1 a2 x2 1 (hel 2 (by decide)) e2
  obtain rfl := one m1 a3 x3 2 (hel 3 (by decide)) e3
  exact ⟨by simpa using hv 0, by simpa using hv 1, by simpa using hv 2, by simpa using hv 3⟩
 ·obtain ⟨xs, m1, rfl, hx1, hlen, hn3, hel⟩ := DataW.trod_struct Tryd.underlying74 hd2
  have c4 : Tryd.prog.cellsOf 74 = 3 := by kernel_rfl
  have c5 : Tryd.prog.cellsOf 4 = 1 := by kernel_rfl
  rw [c4] at hlen
  obtain ⟨l1⟩ := cs2
  obtain ⟨a0, a1, a2, rfl⟩ := len_3 (show l1.length = 3 from hlen)
  obtain ⟨x0, x1, x2, rfl⟩ := len_3 (show xs.length = 3 by simpa using hn3)
  simp only [Rows.laid_turnery_span_all, List.map_cons, List.map_nil, Prod.mk.injEq, DataW.agg.injEq, List.cons.injEq] at hx1
  have h0 : DataW.trod (fun _ => ()) Tryd.prog W 0 (fun _ => true) false m1 3 (([a0, a1, a2].drop 0).take (Tryd.prog.cellsOf 3)) = some x0 := hel 0 _ rfl
  have h1 : DataW.trod (fun _ => ()) Tryd.prog W 0 (fun _ => true) false m1 3 (([a0, a1, a2].drop 1).take (Tryd.prog.cellsOf 3)) = some x1 := hel 1 _ rfl
  have h2 : DataW.trod (fun _ => ()) Tryd.prog W 0 (fun _ => true) false m1 4 (([a0, a1, a2].drop 2).take (Tryd.prog.cellsOf 4)) = some x2 := hel 2 _ rfl
  rw [c3] at h0 h1
  rw [c5] at h2
  have hv := World.var?_cell hg2 hv2
  obtain ⟨⟨e0, e1, e2, _⟩, _⟩ := hx1
  obtain rfl := one m1 a0 x0 _ h0 e0
  obtain rfl := one m1 a1 x1 _ h1 e1
  have ht : a2 = .bool true := by
   obtain ⟨b, eb, e3⟩ := DataW.trod_bool Tryd.underlying4 h2
   rw [e3] at e2
   simp at e2 eb
   rw [eb, ← e2]
  subst ht
  exact ⟨by simpa using hv 0, by simpa using hv 1, by simpa using hv 2⟩
theorem trodAll_five {H : Type} {enc : TypeId × Value → H} {P : Program} {w : World} {base : Nat} {spare : Nat → Bool} {held : Bool} {t t' t'' t3 t4 : TypeId} {args : Array Value} {ds : List (DataW H)} {ps : List MemPlace} (h : DataW.TrodAll enc P w base spare held [t, t', t'', t3, t4] args.toList ds ps) :
  ∃ v v' v'' v3 v4 d d' d'' d3 d4 p p' p'' p3 p4, args = #[v, v', v'', v3, v4] ∧ ds = [d, d', d'', d3, d4] ∧ ps = p ++ p' ++ p'' ++ p3 ++ p4 ∧ DataW.Trod enc P w base spare held t v d p ∧ DataW.Trod enc P w base spare held t' v' d' p' ∧ DataW.Trod enc P w base spare held t'' v'' d'' p'' ∧ DataW.Trod enc P w base spare held t3 v3 d3 p3 ∧ DataW.Trod enc P w base spare held t4 v4 d4 p4 := by
 obtain ⟨v, vs, d, ds', p, q, hargs, rfl, rfl, hd, hrest⟩ := trodAll_cons h
 obtain ⟨v', vs', d', e1, p', q1, rfl, rfl, rfl, hd', hrest1⟩ := trodAll_cons hrest
 obtain ⟨v'', vs2, d'', e2, p'', q2, rfl, rfl, rfl, hd'', hrest2⟩ := trodAll_cons hrest1
 obtain ⟨v3, vs3, d3, e3, p3, q3, rfl, rfl, rfl, hd3, hrest3⟩ := trodAll_cons hrest2
 obtain ⟨v4, vs4, d4, e4, p4, q4, rfl, rfl, rfl, hd4, hrest4⟩ := trodAll_cons hrest3
 obtain ⟨rfl, rfl, rfl⟩ := trodAll_nil hrest4
 exact ⟨v, v', v'', v3, v4, d, d', d'', d3, d4, p, p', p'', p3, p4, by cases args; simp_all, rfl, by simp, hd, hd', hd'', hd3, hd4⟩
end Go.Proofs.YtdjamkinijhjoaaDoor
