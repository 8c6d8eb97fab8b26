/-
  SimpleOneMean: the walk of the law.
-/
import Derived.Test.YtlalmbklhmpngaaDoorBMeanB
import Derived.Test.YtlalmbklhmpngaaDoorSoN
import Derived.Test.YtlalmbklhmpngaaDoorOutC
import Derived.Test.YtlalmbklhmpngaaDoorRegZ
import Derived.Deep.DeepCutAuto
import Derived.WalkKit
import Derived.WalkSpells
import Derived.WalkLawsBesides
namespace Go.Proofs.YtlalmbklhmpngaaDoor
open Go.RowKit

theorem SlF.outX {α : Type} {w : World} {size bytes : Nat} {R : List Value → α → Prop} {v : Value} {xs : List α} (h : SlF w size bytes R v xs) : ∃ p c, v = .slice p xs.length c ∧ (p = none → xs.length = 0 ∧ c = 0) ∧ xs.length ≤ c ∧ SliceAt w size R p xs := by
  obtain ⟨p, c, h1, h2, h3, _, h5⟩ := h
  exact ⟨p, c, h1, h2, h3, h5⟩
theorem SliceAt.valsX {w : World} {p : Option Addr} {xs : List (Bool × Int)} (h : SliceAt w 2 ValR p xs) : ValsAt w p xs.length (fun i => xs.getD i (false, 0)) := by
  rcases h with rfl | ⟨b, o, rfl, h⟩
  · exact .inl rfl
  · refine .inr ⟨b, o, rfl, fun i hi => ?_⟩
    obtain ⟨cs, _, hc, ⟨rfl, _⟩⟩ := h i hi
    have h0 := hc 0 (by omega)
    have h1 := hc 1 (by omega)
    have hg : xs.getD i (false, 0) = xs[i] := by simp [List.getD, hi]
    show w.cell? _ = some (.bool (xs.getD i (false, 0)).1) ∧ w.cell? _ = some (.int .i64 (xs.getD i (false, 0)).2)
    rw [hg]
    exact ⟨h0, h1⟩
/-- where the parts of the two programs lie, as far as they are made -/
structure Two5 (W w : World) (x y : InsL) (ap aq : Option Addr) (al ac bl bc : Nat) (c1 c3 : Option (Nat × Nat × Nat)) (p9 p10 : Option Nat) : Prop where
  b : Below W.heap.size W w
  f1 : ∀ t, c1 = some t → AloneAt w t.1 t.2.1 t.2.2 x ap al ac
  f3 : ∀ t, c3 = some t → AloneAt w t.1 t.2.1 t.2.2 y aq bl bc
  l1 : ∀ t, c1 = some t → W.heap.size ≤ t.1
  l3 : ∀ t, c3 = some t → W.heap.size ≤ t.1
  q9 : ∀ p, p9 = some p → W.heap.size ≤ p ∧ w.heap[p]? = some (.cells #[.slice none 0 0, .slice none 0 0] 35 (0, 0))
  q10 : ∀ p, p10 = some p → W.heap.size ≤ p ∧ w.heap[p]? = some (.cells #[.slice none 0 0, .slice none 0 0] 35 (0, 0))
  ne : ∀ p q, p9 = some p → p10 = some q → p ≠ q
section
variable {W w w' : World} {x y : InsL} {ap aq : Option Addr} {al ac bl bc : Nat} {c1 c3 : Option (Nat × Nat × Nat)} {p9 p10 : Option Nat}
theorem Two5.below (h : Two5 W w x y ap aq al ac bl bc c1 c3 p9 p10) (hb : Below w.heap.size w w') : Two5 W w' x y ap aq al ac bl bc c1 c3 p9 p10 :=
  ⟨h.b.trans (hb.mono h.b.size), fun t e => (h.f1 t e).below hb, fun t e => (h.f3 t e).below hb, h.l1, h.l3,
    fun p e => ⟨(h.q9 p e).1, heap_below hb (Array.getElem?_eq_some_iff.1 (h.q9 p e).2).1 (h.q9 p e).2⟩,
    fun p e => ⟨(h.q10 p e).1, heap_below hb (Array.getElem?_eq_some_iff.1 (h.q10 p e).2).1 (h.q10 p e).2⟩, h.ne⟩
theorem Two5.mk1 (h : Two5 W w x y ap aq al ac bl bc none c3 p9 p10) {b1 b2 b3 : Nat} (hb : Below w.heap.size w w') (hA : AloneAt w' b1 b2 b3 x ap al ac) (hl : w.heap.size ≤ b1) : Two5 W w' x y ap aq al ac bl bc (some (b1, b2, b3)) c3 p9 p10 := by
  have g := h.below hb
  have := h.b.size
  exact ⟨g.b, fun t e => (by cases e; exact hA), g.f3, fun t e => (by cases e; show _ ≤ b1; omega), g.l3, g.q9, g.q10, g.ne⟩
theorem Two5.mk3 (h : Two5 W w x y ap aq al ac bl bc c1 none p9 p10) {b1 b2 b3 : Nat} (hb : Below w.heap.size w w') (hA : AloneAt w' b1 b2 b3 y aq bl bc) (hl : w.heap.size ≤ b1) : Two5 W w' x y ap aq al ac bl bc c1 (some (b1, b2, b3)) p9 p10 := by
  have g := h.below hb
  have := h.b.size
  exact ⟨g.b, g.f1, fun t e => (by cases e; exact hA), g.l1, fun t e => (by cases e; show _ ≤ b1; omega), g.q9, g.q10, g.ne⟩
theorem Two5.mk9 (h : Two5 W w x y ap aq al ac bl bc c1 c3 none p10) : Two5 W (w.alloc (.cells #[.slice none 0 0, .slice none 0 0] 35)) x y ap aq al ac bl bc c1 c3 (some w.heap.size) p10 := by
  have g := h.below ((Below.refl _ _).alloc (Nat.le_refl _) (.cells #[.slice none 0 0, .slice none 0 0] 35))
  refine ⟨g.b, g.f1, g.f3, g.l1, g.l3, fun p e => (by cases e; exact ⟨h.b.size, heap_at rfl⟩), g.q10, fun p q e1 e2 e3 => ?_⟩
  cases e1
  have := (Array.getElem?_eq_some_iff.1 (h.q10 q e2).2).1
  omega
theorem Two5.mk10 (h : Two5 W w x y ap aq al ac bl bc c1 c3 p9 none) : Two5 W (w.alloc (.cells #[.slice none 0 0, .slice none 0 0] 35)) x y ap aq al ac bl bc c1 c3 p9 (some w.heap.size) := by
  have g := h.below ((Below.refl _ _).alloc (Nat.le_refl _) (.cells #[.slice none 0 0, .slice none 0 0] 35))
  refine ⟨g.b, g.f1, g.f3, g.l1, g.l3, g.q9, fun p e => (by cases e; exact ⟨h.b.size, heap_at rfl⟩), fun p q e1 e2 e3 => ?_⟩
  cases e2
  have := (Array.getElem?_eq_some_iff.1 (h.q9 p e1).2).1
  omega
end
/-- both programs made and stored -/
def TwoDone (W w : World) (x y : InsL) (ap aq : Option Addr) (al ac bl bc p9 p10 : Nat) : Prop :=
  ∃ b1 b2 b3 d1 d2 d3, Below W.heap.size W w ∧ AloneAt w b1 b2 b3 x ap al ac ∧ AloneAt w d1 d2 d3 y aq bl bc ∧
    w.heap[p9]? = some (.cells #[.slice none 0 0, .slice (some ⟨b1, 0, none⟩) 1 1] 35 (0, 0)) ∧ w.heap[p10]? = some (.cells #[.slice none 0 0, .slice (some ⟨d1, 0, none⟩) 1 1] 35 (0, 0))
theorem Two5.after {w : World} {p q : Nat} {A : Array Value} {T : TypeId} (h : w.heap[q]? = some (.cells A T (0, 0))) (hn : p ≠ q) (u v : Value) : ((w.setCell ⟨p, 0, none⟩ u).setCell ⟨p, 1, none⟩ v).heap[q]? = some (.cells A T (0, 0)) :=
  (Go.Deep.blk_setCell_other _ ⟨p, 1, none⟩ _ q (fun e => hn (by rw [e]))).trans ((Go.Deep.blk_setCell_other _ ⟨p, 0, none⟩ _ q (fun e => hn (by rw [e]))).trans h)
theorem Two5.done {W w : World} {x y : InsL} {ap aq : Option Addr} {al ac bl bc b1 b2 b3 d1 d2 d3 p q : Nat} (h : Two5 W w x y ap aq al ac bl bc (some (b1, b2, b3)) (some (d1, d2, d3)) (some p) (some q)) :
    TwoDone W ((((w.setCell ⟨p, 0, none⟩ (.slice none 0 0)).setCell ⟨p, 1, none⟩ (.slice (some ⟨b1, 0, none⟩) 1 1)).setCell ⟨q, 0, none⟩ (.slice none 0 0)).setCell ⟨q, 1, none⟩ (.slice (some ⟨d1, 0, none⟩) 1 1)) x y ap aq al ac bl bc p q := by
  obtain ⟨hp, hp2⟩ := h.q9 p rfl
  obtain ⟨hq, hq2⟩ := h.q10 q rfl
  have hne := h.ne p q rfl rfl
  have oth : ∀ (k : Nat) A T, w.heap[k]? = some (.cells A T (0, 0)) → k ≠ p → k ≠ q → ((((w.setCell ⟨p, 0, none⟩ (.slice none 0 0)).setCell ⟨p, 1, none⟩ (.slice (some ⟨b1, 0, none⟩) 1 1)).setCell ⟨q, 0, none⟩ (.slice none 0 0)).setCell ⟨q, 1, none⟩ (.slice (some ⟨d1, 0, none⟩) 1 1)).heap[k]? = some (.cells A T (0, 0)) := fun k A T hk h1 h2 => Two5.after (Two5.after hk (Ne.symm h1) _ _) (Ne.symm h2) _ _
  have ao : ∀ (i : InsL) (zp : Option Addr) (zl zc e1 e2 e3 : Nat), AloneAt w e1 e2 e3 i zp zl zc → AloneAt ((((w.setCell ⟨p, 0, none⟩ (.slice none 0 0)).setCell ⟨p, 1, none⟩ (.slice (some ⟨b1, 0, none⟩) 1 1)).setCell ⟨q, 0, none⟩ (.slice none 0 0)).setCell ⟨q, 1, none⟩ (.slice (some ⟨d1, 0, none⟩) 1 1)) e1 e2 e3 i zp zl zc := fun i zp zl zc e1 e2 e3 hA => by
    obtain ⟨⟨T1, g1⟩, ⟨T2, g2⟩, ⟨T3, g3⟩⟩ := hA
    refine ⟨⟨T1, oth _ _ _ g1 ?_ ?_⟩, ⟨T2, oth _ _ _ g2 ?_ ?_⟩, ⟨T3, oth _ _ _ g3 ?_ ?_⟩⟩
    all_goals
      rintro rfl
      simp_all
  refine ⟨b1, b2, b3, d1, d2, d3, ?_, ao _ _ _ _ _ _ _ (h.f1 _ rfl), ao _ _ _ _ _ _ _ (h.f3 _ rfl), ?_, ?_⟩
  · exact (((h.b.setCell hp _).setCell hp _).setCell hq _).setCell hq _
  · refine Two5.after ?_ (Ne.symm hne) _ _
    rw [heap_set (heap_set hp2 0 _) 1 _]
    rfl
  · rw [heap_set (heap_set (Two5.after hq2 hne _ _) 0 _) 1 _]
    rfl
theorem ints_two {W : World} {g : Nat} {T : TypeId} {a b : Int} (h : W.heap[g]? = some (.cells #[.int .i64 a, .int .i64 b] T (0, 0))) (ha : I64 a) (hb : I64 b) : SliceAt W 1 IntR (some ⟨g, 0, none⟩) [a, b] := by
  refine .inr ⟨g, 0, rfl, fun i hi => ?_⟩
  have hi2 : i < 2 := hi
  match i, hi2 with
  | 0, _ => exact ⟨[.int .i64 a], rfl, fun j hj => by obtain rfl : j = 0 := by omega
                                                      rw [(blk h).1]; rfl, rfl, ha⟩
  | 1, _ => exact ⟨[.int .i64 b], rfl, fun j hj => by obtain rfl : j = 0 := by omega
                                                      rw [(blk h).1]; rfl, rfl, hb⟩

theorem inst_ite {P : Inst → Prop} {c : Prop} [Decidable c] {x y : Inst} (h1 : P x) (h2 : P y) : P (if c then x else y) := by
  split
  · exact h1
  · exact h2
theorem oneI_all {P : Inst → Prop} {op dst an bn fn : Int} {ar br : Bool} {ap : Option Addr} {al ac : Nat} (h0 : ∀ (r : Bool) n, (n = an ∨ n = bn ∨ n = 0 ∨ n = 1 ∨ n = -1 ∨ n = (twoL op an bn).1) → P (one1 1 dst r n)) (h1 : ∀ (o : Int) (r : Bool) n, (o = 16 ∨ o = 17) → (n = an ∨ n = bn ∨ n = 0) → P (one1 o dst r n))
    (h2 : ∀ (o : Int) (r : Bool) n (r' : Bool) n' f q l c, (o = op ∨ o = 2) → (n = an ∨ n = bn) → (n' = an ∨ n' = bn ∨ n' = wrap64 (-bn)) → (f = fn ∨ f = 0) → P ⟨o, dst, r, n, r', n', f, q, l, c⟩) : P (oneI op dst an bn fn ar br ap al ac) := by
  unfold oneI fixI ledI aliI
  repeat' (first | refine inst_ite ?_ ?_)
  all_goals (first | (refine h0 _ _ ?_; simp; done) | (refine h1 _ _ _ ?_ ?_ <;> simp; done) | (refine h2 _ _ _ _ _ _ _ _ _ ?_ ?_ ?_ ?_ <;> simp; done))
theorem oneI_pos {op dst an bn fn : Int} {ar br : Bool} {ap : Option Addr} {al ac : Nat} {x : Inst} (hx : x = oneI op dst an bn fn ar br ap al ac) (h : 1 ≤ op) : 1 ≤ x.op := by
  rw [hx]
  refine oneI_all (P := fun x => 1 ≤ x.op) (fun r n _ => by show (1 : Int) ≤ 1; omega) (fun o r n ho _ => by show (1 : Int) ≤ o; omega) (fun o r n r' n' f q l c ho _ _ _ => by show (1 : Int) ≤ o; omega)
theorem oneI_i64 {op an bn fn : Int} {ar br : Bool} {ap : Option Addr} {al ac : Nat} {x : Inst} (hx : x = oneI op 2 an bn fn ar br ap al ac) (h1 : I64 op) (h3 : I64 an) (h4 : I64 bn) (h5 : I64 fn) : I64 x.op ∧ I64 x.dst ∧ I64 x.an ∧ I64 x.bn ∧ I64 x.fn := by
  have c : ∀ k : Int, -20 ≤ k → k ≤ 20 → I64 k := fun k _ _ => by unfold I64; omega
  have t := twoL_in64 (op := op) (b := bn) h3
  have w := wrap64_in64 (-bn)
  have z0 := c 0 (by omega) (by omega)
  have z1 := c 1 (by omega) (by omega)
  have z2 := c 2 (by omega) (by omega)
  have zm := c (-1) (by omega) (by omega)
  rw [hx]
  refine oneI_all (P := fun x => I64 x.op ∧ I64 x.dst ∧ I64 x.an ∧ I64 x.bn ∧ I64 x.fn) (fun r n hn => ⟨z1, z2, ?_, z0, z0⟩) (fun o r n ho hn => ⟨?_, z2, ?_, z0, z0⟩) (fun o r n r' n' f q l c ho hn hn' hf => ⟨?_, z2, ?_, ?_, ?_⟩)
  · show I64 n
    rcases hn with e | e | e | e | e | e <;> (rw [e]; assumption)
  · show I64 o
    rcases ho with e | e
    · rw [e]; exact c 16 (by omega) (by omega)
    · rw [e]; exact c 17 (by omega) (by omega)
  · show I64 n
    rcases hn with e | e | e <;> (rw [e]; assumption)
  · show I64 o
    rcases ho with e | e <;> (rw [e]; assumption)
  · show I64 n
    rcases hn with e | e <;> (rw [e]; assumption)
  · show I64 n'
    rcases hn' with e | e | e <;> (rw [e]; assumption)
  · show I64 f
    rcases hf with e | e <;> (rw [e]; assumption)
theorem run_fieldC (a c : Int) (w : World) : (Instr.field 28 (.agg #[.int .i64 a, .int .i64 c]) 0).run Tryd.prog w = .ok (.int .i64 a) w := by kernel_rfl
theorem runO_fineX {u : UniL} {inp : List Int} {fuel : Int} (h : (runF u inp.length fuel).1 = 0) : runO u inp fuel = runU u inp fuel.toNat := by unfold runO; rw [if_pos h]
theorem alone_F {x : InsL} (h : (chk (aloneU x)).1 = 0) : runF (aloneU x) 2 9 = (0, 0) := by
  unfold runF
  rw [if_neg (by rw [h]; simp), if_neg (by omega), if_neg (by decide)]
theorem do_alone {x : InsL} {b1 : Nat} {w : World} (hUn : UnA (aloneU x) none (some ⟨b1, 0, none⟩) w) (hL : Lone x) {a b : Int} {st va : Int} {ou : List Int} {sp : Nat} (h : comesO (runU (aloneU x) [a, b] 9) = (st, va, ou, sp)) {g : Nat} (hI : SliceAt w 1 IntR (some ⟨g, 0, none⟩) [a, b]) :
    Calls Tryd.prog 19 #[.agg #[.slice none 0 0, .slice (some ⟨b1, 0, none⟩) 1 1], .slice (some ⟨g, 0, none⟩) 2 2, .int .i64 9] w fun e w' => ∃ p c, e = .returned (.tuple #[.agg #[.int .i64 st, .int .i64 va, .slice p ou.length c, .int .i64 sp], .agg #[.int .i64 0, .int .i64 0]]) ∧ SliceAt w' 1 IntR p ou ∧ Below w.heap.size w w' := by
  have hc := alone_chk (hL.ins (aloneU x) (f := aloneF x) rfl)
  have hF : runF (aloneU x) [a, b].length 9 = (0, 0) := alone_F hc
  have hO : runO (aloneU x) [a, b] 9 = runU (aloneU x) [a, b] 9 := runO_fineX (by rw [hF])
  unfold comesO at h
  simp only [Prod.mk.injEq] at h
  obtain ⟨e1, e2, e3, e4⟩ := h
  refine (do_any (gc := 0) (fc := 1) hUn [a, b] (some ⟨g, 0, none⟩) 2 9 hI (Nat.le_refl _) (fun e => by cases e)).mono ?_
  rintro e w' ⟨p, c, rfl, hS, _, hb⟩
  rw [hF, hO, e1, e2, e3, e4]
  rw [hO, e3] at hS
  exact ⟨p, c, rfl, hS, hb⟩
set_option maxRecDepth 100000 in
set_option maxHeartbeats 4000000 in
theorem mean_low (x : InsL) (ap : Option Addr) (ac : Nat) (a b : Int) (w : World) (h1 : 1 ≤ x.op) (h2 : x.op ≤ 17) (i1 : I64 x.op) (i3 : I64 x.an) (i4 : I64 x.bn) (i5 : I64 x.fn) (hs : SlF w 2 16 ValR (.slice ap x.args.length ac) x.args) (hw0 : Ways w) (hA : I64 a) (hB : I64 b) :
    Calls Tryd.prog 3 #[.agg #[.int .i64 x.op, .int .i64 x.dst, .bool x.ar, .int .i64 x.an, .bool x.br, .int .i64 x.bn, .int .i64 x.fn, .slice ap x.args.length ac], .int .i64 a, .int .i64 b] w fun e w' => e = .returned (.bool true) ∧ Below w.heap.size w w' := by
  obtain ⟨o, d, r, n, r', n', f, k, hk⟩ := oneI_keeps x.op 2 x.an x.bn x.fn x.ar x.br
  have hv : ValsAt w ap x.args.length (fun i => x.args.getD i (false, 0)) := by
    obtain ⟨p, c, e, _, _, hs⟩ := hs.outX
    cases e
    exact hs.valsX
  have hq : ap = none → x.args.length = 0 ∧ ac = 0 := by
    obtain ⟨p, c, e, hq, _⟩ := hs
    cases e
    exact hq
  have hl : x.args.length * 16 ≤ 140737488355328 := by
    obtain ⟨p, c, _, hl, _⟩ := hs.out
    omega
  have h17 : decide ((17 : Int) < x.op) = false := by rw [decide_eq_false_iff_not]; omega
  have HK : Hid (∀ (ap : Option Addr) (al ac : Nat), oneI x.op 2 x.an x.bn x.fn x.ar x.br ap al ac = ⟨o, d, r, n, r', n', f, if k then ap else none, if k then al else 0, if k then ac else 0⟩) := hk
  have HS := hidI hs
  have HV := hidI hv
  have HQ := hidI hq
  have HW := hidI hw0
  have HI3 := hidI i3
  clear hk hs hv hq hw0
  generalize hmm : (if k then x.args.length else 0) = m
  have HM : Hid ((if k then x.args.length else 0) = m) := hmm
  clear hmm
  go_enter Tryd.func3, Tryd.ntmps3
  go_wp2_with fail
  refine (One_any _ _ _ _ _ _ _ _ _ _ _ _ h1 (by omega) HI3.out hl HQ.out (HV.out.below (by repeat (first | with_reducible exact Below.refl _ _ | with_reducible exact HB3.out | with_reducible refine Below.drew ?_ | with_reducible refine below_drewN ?_ _ | with_reducible refine Below.setCell ?_ ?_ _ | with_reducible refine Below.alloc ?_ ?_ _ | with_reducible exact HB2.out | with_reducible exact HB1.out | with_reducible refine Below.trans ?_ (Below.mono hb3 ?_) | with_reducible refine Below.trans ?_ (Below.mono hb5 ?_) | with_reducible refine Below.trans ?_ (Below.mono hb4 ?_) | omega | (simp; omega) | simp)))).mono ?_
  rintro e w2 ⟨hpost, hb2⟩
  obtain ⟨p1, c1, rfl, hV1, hQ1⟩ := hpost.keep HK.out
  rw [HM.out] at hV1 hQ1
  rw [HM.out]
  have HB1 : Hid (Below w.heap.size w w2) := Below.trans (by repeat (first | with_reducible exact Below.refl _ _ | with_reducible exact HB3.out | with_reducible refine Below.drew ?_ | with_reducible refine below_drewN ?_ _ | with_reducible refine Below.setCell ?_ ?_ _ | with_reducible refine Below.alloc ?_ ?_ _ | with_reducible exact HB2.out | with_reducible exact HB1.out | with_reducible refine Below.trans ?_ (Below.mono hb3 ?_) | with_reducible refine Below.trans ?_ (Below.mono hb5 ?_) | with_reducible refine Below.trans ?_ (Below.mono hb4 ?_) | omega | (simp; omega) | simp)) (hb2.mono (by first | (simp; done) | (simp; omega)))
  have hca : w2.heap[w.heap.size]? = some (.cells #[.int .i64 x.op, .int .i64 2, .bool x.ar, .int .i64 x.an, .bool x.br, .int .i64 x.bn, .int .i64 x.fn, .slice ap x.args.length ac] 26 (0, 0)) := heap_below (k := w.heap.size) hb2 (by first | (simp; done) | (simp; omega)) (heap_at rfl)
  have HCa := hidI hca
  clear hca
  obtain ⟨ca, fa⟩ := blk HCa.out
  have z1 : w.heap.size < w2.heap.size := by have := hb2.size; simp at this; omega
  have z2 : w.heap.size < w2.heap.size + 1 := by omega
  have z3 : w.heap.size < w2.heap.size + 1 + 1 := by omega
  clear hb2 hpost
  go_wp2_with fail
  obtain ⟨W, hW⟩ : ∃ W, W = (w2.alloc (.cells #[.int .i64 o, .int .i64 d, .bool r, .int .i64 n, .bool r', .int .i64 n', .int .i64 f, .slice p1 m c1] 26)).alloc (.cells #[.int .i64 0, .int .i64 0] 28) := ⟨_, rfl⟩
  rw [← hW]
  have hbW : Below w2.heap.size w2 W := by rw [hW]; repeat (first | with_reducible exact Below.refl _ _ | with_reducible exact HB3.out | with_reducible refine Below.drew ?_ | with_reducible refine below_drewN ?_ _ | with_reducible refine Below.setCell ?_ ?_ _ | with_reducible refine Below.alloc ?_ ?_ _ | with_reducible exact HB2.out | with_reducible exact HB1.out | with_reducible refine Below.trans ?_ (Below.mono hb3 ?_) | with_reducible refine Below.trans ?_ (Below.mono hb5 ?_) | with_reducible refine Below.trans ?_ (Below.mono hb4 ?_) | omega | (simp; omega) | simp)
  have hWx : W.heap[w.heap.size]? = some (.cells #[.int .i64 x.op, .int .i64 2, .bool x.ar, .int .i64 x.an, .bool x.br, .int .i64 x.bn, .int .i64 x.fn, .slice ap x.args.length ac] 26 (0, 0)) := heap_below hbW z1 HCa.out
  have hWy : W.heap[w2.heap.size]? = some (.cells #[.int .i64 o, .int .i64 d, .bool r, .int .i64 n, .bool r', .int .i64 n', .int .i64 f, .slice p1 m c1] 26 (0, 0)) := by rw [hW]; exact heap_step (heap_at rfl)
  have hAll : ∀ w', Below W.heap.size W w' → w'.cell? ⟨w.heap.size, 0, none⟩ = some (.int .i64 x.op) ∧ w'.cell? ⟨w.heap.size, 1, none⟩ = some (.int .i64 2) ∧ w'.cell? ⟨w.heap.size, 2, none⟩ = some (.bool x.ar) ∧ w'.cell? ⟨w.heap.size, 3, none⟩ = some (.int .i64 x.an) ∧ w'.cell? ⟨w.heap.size, 4, none⟩ = some (.bool x.br) ∧ w'.cell? ⟨w.heap.size, 5, none⟩ = some (.int .i64 x.bn) ∧ w'.cell? ⟨w.heap.size, 6, none⟩ = some (.int .i64 x.fn) ∧ w'.cell? ⟨w.heap.size, 7, none⟩ = some (.slice ap x.args.length ac) ∧ w'.cell? ⟨w2.heap.size, 0, none⟩ = some (.int .i64 o) ∧ w'.cell? ⟨w2.heap.size, 1, none⟩ = some (.int .i64 d) ∧ w'.cell? ⟨w2.heap.size, 2, none⟩ = some (.bool r) ∧ w'.cell? ⟨w2.heap.size, 3, none⟩ = some (.int .i64 n) ∧ w'.cell? ⟨w2.heap.size, 4, none⟩ = some (.bool r') ∧ w'.cell? ⟨w2.heap.size, 5, none⟩ = some (.int .i64 n') ∧ w'.cell? ⟨w2.heap.size, 6, none⟩ = some (.int .i64 f) ∧ w'.cell? ⟨w2.heap.size, 7, none⟩ = some (.slice p1 m c1) := fun w' h => by
    obtain ⟨ka, _⟩ := blk (heap_below h (Array.getElem?_eq_some_iff.1 hWx).1 hWx)
    obtain ⟨kb, _⟩ := blk (heap_below h (Array.getElem?_eq_some_iff.1 hWy).1 hWy)
    exact ⟨ka 0, ka 1, ka 2, ka 3, ka 4, ka 5, ka 6, ka 7, kb 0, kb 1, kb 2, kb 3, kb 4, kb 5, kb 6, kb 7⟩
  have HAll := hidI hAll
  have HBW : Hid (Below w.heap.size w W) := HB1.out.trans (hbW.mono (by omega))
  have HXY := hidI (And.intro hWx hWy)
  have HV2 := hidI (hV1.out.below hbW)
  have zW : w2.heap.size < W.heap.size := (Array.getElem?_eq_some_iff.1 hWy).1
  clear hbW hWx hWy hAll hW ca fa hV1 z1 z2 z3
  go_cut [9, 10] (fun u9 u10 wx => ∃ q9 q10, u9 = .pointer (some ⟨q9, 0, none⟩) ∧ u10 = .pointer (some ⟨q10, 0, none⟩) ∧ TwoDone W wx ⟨x.op, 2, x.ar, x.an, x.br, x.bn, x.fn, x.args⟩ ⟨o, d, r, n, r', n', f, []⟩ ap p1 x.args.length ac m c1 q9 q10)
  case first =>
    refine wp_region_calm (S := fun w' => w'.cell? ⟨w.heap.size, 0, none⟩ = some (.int .i64 x.op) ∧ w'.cell? ⟨w.heap.size, 1, none⟩ = some (.int .i64 2) ∧ w'.cell? ⟨w.heap.size, 2, none⟩ = some (.bool x.ar) ∧ w'.cell? ⟨w.heap.size, 3, none⟩ = some (.int .i64 x.an) ∧ w'.cell? ⟨w.heap.size, 4, none⟩ = some (.bool x.br) ∧ w'.cell? ⟨w.heap.size, 5, none⟩ = some (.int .i64 x.bn) ∧ w'.cell? ⟨w.heap.size, 6, none⟩ = some (.int .i64 x.fn) ∧ w'.cell? ⟨w.heap.size, 7, none⟩ = some (.slice ap x.args.length ac) ∧ w'.cell? ⟨w2.heap.size, 0, none⟩ = some (.int .i64 o) ∧ w'.cell? ⟨w2.heap.size, 1, none⟩ = some (.int .i64 d) ∧ w'.cell? ⟨w2.heap.size, 2, none⟩ = some (.bool r) ∧ w'.cell? ⟨w2.heap.size, 3, none⟩ = some (.int .i64 n) ∧ w'.cell? ⟨w2.heap.size, 4, none⟩ = some (.bool r') ∧ w'.cell? ⟨w2.heap.size, 5, none⟩ = some (.int .i64 n') ∧ w'.cell? ⟨w2.heap.size, 6, none⟩ = some (.int .i64 f) ∧ w'.cell? ⟨w2.heap.size, 7, none⟩ = some (.slice p1 m c1)) (by kernel_rfl) 7 ?_
    have HT : Hid (Two5 W W.drew ⟨x.op, 2, x.ar, x.an, x.br, x.bn, x.fn, x.args⟩ ⟨o, d, r, n, r', n', f, []⟩ ap p1 x.args.length ac m c1 none none none none) := hidI ⟨(Below.refl _ _).drew, fun _ e => (by cases e), fun _ e => (by cases e), fun _ e => (by cases e), fun _ e => (by cases e), fun _ e => (by cases e), fun _ e => (by cases e), fun _ _ e => (by cases e)⟩
    have hS : (fun w' : World => w'.cell? ⟨w.heap.size, 0, none⟩ = some (.int .i64 x.op) ∧ w'.cell? ⟨w.heap.size, 1, none⟩ = some (.int .i64 2) ∧ w'.cell? ⟨w.heap.size, 2, none⟩ = some (.bool x.ar) ∧ w'.cell? ⟨w.heap.size, 3, none⟩ = some (.int .i64 x.an) ∧ w'.cell? ⟨w.heap.size, 4, none⟩ = some (.bool x.br) ∧ w'.cell? ⟨w.heap.size, 5, none⟩ = some (.int .i64 x.bn) ∧ w'.cell? ⟨w.heap.size, 6, none⟩ = some (.int .i64 x.fn) ∧ w'.cell? ⟨w.heap.size, 7, none⟩ = some (.slice ap x.args.length ac) ∧ w'.cell? ⟨w2.heap.size, 0, none⟩ = some (.int .i64 o) ∧ w'.cell? ⟨w2.heap.size, 1, none⟩ = some (.int .i64 d) ∧ w'.cell? ⟨w2.heap.size, 2, none⟩ = some (.bool r) ∧ w'.cell? ⟨w2.heap.size, 3, none⟩ = some (.int .i64 n) ∧ w'.cell? ⟨w2.heap.size, 4, none⟩ = some (.bool r') ∧ w'.cell? ⟨w2.heap.size, 5, none⟩ = some (.int .i64 n') ∧ w'.cell? ⟨w2.heap.size, 6, none⟩ = some (.int .i64 f) ∧ w'.cell? ⟨w2.heap.size, 7, none⟩ = some (.slice p1 m c1)) W.drew := HAll.out _ HT.out.b
    refine takeZ 0 37 ?_ rfl rfl (by kernel_rfl) (by kernel_rfl) (by kernel_rfl) (by kernel_rfl) (fun _ _ _ h => h) (Or.inl ⟨by rfl, ?_⟩) hS ?_
    rotate_left
    · intro w hSw; (try dsimp only at hSw); go_simp; try with_reducible rfl
    simp only [Act.put, List.setIfInBounds_toArray, List.set_cons_zero, List.set_cons_succ]
    refine takeZ 2 39 ?_ rfl rfl (by kernel_rfl) (by kernel_rfl) (by kernel_rfl) (by kernel_rfl) (fun _ _ _ h => h) (Or.inl ⟨by rfl, ?_⟩) hS ?_
    rotate_left
    · intro w hSw; (try dsimp only at hSw); go_simp; try with_reducible rfl
    simp only [Act.put, List.setIfInBounds_toArray, List.set_cons_zero, List.set_cons_succ]
    clear hS
    generalize W.drew = w4 at HT ⊢
    refine stepZ_3 (i := 1) (j := 4) (k := 5) (by kernel_rfl) ?_ ?_ ?_
    · refine stepZ_callTo 38 rfl rfl rfl (by go_simp) (alone_any ⟨x.op, 2, x.ar, x.an, x.br, x.bn, x.fn, x.args⟩ ap x.args.length ac _) ?_
      rintro e w5 ⟨b1, b2, b3, rfl, hA, hl, hb⟩
      have HT := hidI (HT.out.mk1 hb hA hl)
      refine ⟨_, rfl, HAll.out _ HT.out.b, ?_⟩
      clear hA hl hb
      simp only [Act.put, List.setIfInBounds_toArray, List.set_cons_zero, List.set_cons_succ]
      refine stepZ_3 (i := 3) (j := 4) (k := 5) (by kernel_rfl) ?_ ?_ ?_
      · refine stepZ_callTo 40 rfl rfl rfl (by go_simp) (alone_any ⟨o, d, r, n, r', n', f, []⟩ p1 m c1 _) ?_
        rintro e w6 ⟨d1, d2, d3, rfl, hA, hl, hb⟩
        have HT := hidI (HT.out.mk3 hb hA hl)
        refine ⟨_, rfl, HAll.out _ HT.out.b, ?_⟩
        clear hA hl hb
        simp only [Act.put, List.setIfInBounds_toArray, List.set_cons_zero, List.set_cons_succ]
        refine stepZ_2 (i := 4) (j := 5) (by kernel_rfl) ?_ ?_
        · refine stepZ_to 9 (.pointer (some ⟨w6.heap.size, 0, none⟩)) (w6.alloc (.cells #[.slice none 0 0, .slice none 0 0] 35)) rfl rfl rfl (by go_simp) (HAll.out _ HT.out.mk9.b) ?_
          have HT := hidI HT.out.mk9
          generalize w6.alloc (.cells #[.slice none 0 0, .slice none 0 0] 35) = w7 at HT ⊢
          generalize w6.heap.size = q9 at HT ⊢
          simp only [Act.put, List.setIfInBounds_toArray, List.set_cons_zero, List.set_cons_succ]
          refine stepZ_1 (i := 5) (by kernel_rfl) ?_
          · refine stepZ_to 10 (.pointer (some ⟨w7.heap.size, 0, none⟩)) (w7.alloc (.cells #[.slice none 0 0, .slice none 0 0] 35)) rfl rfl rfl (by go_simp) (HAll.out _ HT.out.mk10.b) ?_
            have HT := hidI HT.out.mk10
            generalize w7.alloc (.cells #[.slice none 0 0, .slice none 0 0] 35) = w8 at HT ⊢
            generalize w7.heap.size = q10 at HT ⊢
            simp only [Act.put, List.setIfInBounds_toArray, List.set_cons_zero, List.set_cons_succ]
            obtain ⟨g9, hg9⟩ := HT.out.q9 _ rfl
            obtain ⟨g10, hg10⟩ := HT.out.q10 _ rfl
            obtain ⟨ka, fa9⟩ := blk hg9
            have k0 := ka 0; have k1 := ka 1
            have y9 := (Array.getElem?_eq_some_iff.1 hg9).1
            have hB6 := (HT.out.b.setCell (p := ⟨q9, 0, none⟩) (HT.out.q9 _ rfl).1 (.slice none 0 0)).setCell (p := ⟨q9, 1, none⟩) (HT.out.q9 _ rfl).1 (.slice (some ⟨b1, 0, none⟩) 1 1)
            have hD := HT.out.done
            have HD := hidI hD
            obtain ⟨kb, fb⟩ := blk (Two5.after hg10 (HT.out.ne _ _ rfl rfl) (.slice none 0 0) (.slice (some ⟨b1, 0, none⟩) 1 1))
            have k2 := kb 0; have k3 := kb 1
            have y10 := (Array.getElem?_eq_some_iff.1 hg10).1
            clear ka kb hD HT hg9 hg10
            refine stepZ_1 (i := 6) (by kernel_rfl) (stepZ_skipNo ((w8.setCell ⟨q9, 0, none⟩ (.slice none 0 0)).setCell ⟨q9, 1, none⟩ (.slice (some ⟨b1, 0, none⟩) 1 1)) rfl rfl rfl (by go_simp) (fun _ => ?_) ?_)
            · exact HAll.out _ hB6
            generalize hwx : (w8.setCell ⟨q9, 0, none⟩ (.slice none 0 0)).setCell ⟨q9, 1, none⟩ (.slice (some ⟨b1, 0, none⟩) 1 1) = wx at *
            refine stepZ_1 (i := 7) (by kernel_rfl) (stepZ_skipNo ((wx.setCell ⟨q10, 0, none⟩ (.slice none 0 0)).setCell ⟨q10, 1, none⟩ (.slice (some ⟨d1, 0, none⟩) 1 1)) rfl rfl rfl (by go_simp) (fun h => absurd rfl h) (wpAnyZ_done (by kernel_rfl) ?_ _))
            simp only [calm]
            generalize hwz : (wx.setCell ⟨q10, 0, none⟩ (.slice none 0 0)).setCell ⟨q10, 1, none⟩ (.slice (some ⟨d1, 0, none⟩) 1 1) = wz at *
            go_wp2_with fail
            go_meet
            exact ⟨q9, q10, rfl, rfl, HD.out⟩
        · refine stepZ_to 10 (.pointer (some ⟨w6.heap.size, 0, none⟩)) (w6.alloc (.cells #[.slice none 0 0, .slice none 0 0] 35)) rfl rfl rfl (by go_simp) (HAll.out _ HT.out.mk10.b) ?_
          have HT := hidI HT.out.mk10
          generalize w6.alloc (.cells #[.slice none 0 0, .slice none 0 0] 35) = w7 at HT ⊢
          generalize w6.heap.size = q10 at HT ⊢
          simp only [Act.put, List.setIfInBounds_toArray, List.set_cons_zero, List.set_cons_succ]
          refine stepZ_1 (i := 4) (by kernel_rfl) ?_
          · refine stepZ_to 9 (.pointer (some ⟨w7.heap.size, 0, none⟩)) (w7.alloc (.cells #[.slice none 0 0, .slice none 0 0] 35)) rfl rfl rfl (by go_simp) (HAll.out _ HT.out.mk9.b) ?_
            have HT := hidI HT.out.mk9
            generalize w7.alloc (.cells #[.slice none 0 0, .slice none 0 0] 35) = w8 at HT ⊢
            generalize w7.heap.size = q9 at HT ⊢
            simp only [Act.put, List.setIfInBounds_toArray, List.set_cons_zero, List.set_cons_succ]
            obtain ⟨g9, hg9⟩ := HT.out.q9 _ rfl
            obtain ⟨g10, hg10⟩ := HT.out.q10 _ rfl
            obtain ⟨ka, fa9⟩ := blk hg9
            have k0 := ka 0; have k1 := ka 1
            have y9 := (Array.getElem?_eq_some_iff.1 hg9).1
            have hB6 := (HT.out.b.setCell (p := ⟨q9, 0, none⟩) (HT.out.q9 _ rfl).1 (.slice none 0 0)).setCell (p := ⟨q9, 1, none⟩) (HT.out.q9 _ rfl).1 (.slice (some ⟨b1, 0, none⟩) 1 1)
            have hD := HT.out.done
            have HD := hidI hD
            obtain ⟨kb, fb⟩ := blk (Two5.after hg10 (HT.out.ne _ _ rfl rfl) (.slice none 0 0) (.slice (some ⟨b1, 0, none⟩) 1 1))
            have k2 := kb 0; have k3 := kb 1
            have y10 := (Array.getElem?_eq_some_iff.1 hg10).1
            clear ka kb hD HT hg9 hg10
            refine stepZ_1 (i := 6) (by kernel_rfl) (stepZ_skipNo ((w8.setCell ⟨q9, 0, none⟩ (.slice none 0 0)).setCell ⟨q9, 1, none⟩ (.slice (some ⟨b1, 0, none⟩) 1 1)) rfl rfl rfl (by go_simp) (fun _ => ?_) ?_)
            · exact HAll.out _ hB6
            generalize hwx : (w8.setCell ⟨q9, 0, none⟩ (.slice none 0 0)).setCell ⟨q9, 1, none⟩ (.slice (some ⟨b1, 0, none⟩) 1 1) = wx at *
            refine stepZ_1 (i := 7) (by kernel_rfl) (stepZ_skipNo ((wx.setCell ⟨q10, 0, none⟩ (.slice none 0 0)).setCell ⟨q10, 1, none⟩ (.slice (some ⟨d1, 0, none⟩) 1 1)) rfl rfl rfl (by go_simp) (fun h => absurd rfl h) (wpAnyZ_done (by kernel_rfl) ?_ _))
            simp only [calm]
            generalize hwz : (wx.setCell ⟨q10, 0, none⟩ (.slice none 0 0)).setCell ⟨q10, 1, none⟩ (.slice (some ⟨d1, 0, none⟩) 1 1) = wz at *
            go_wp2_with fail
            go_meet
            exact ⟨q9, q10, rfl, rfl, HD.out⟩
      · refine stepZ_to 9 (.pointer (some ⟨w5.heap.size, 0, none⟩)) (w5.alloc (.cells #[.slice none 0 0, .slice none 0 0] 35)) rfl rfl rfl (by go_simp) (HAll.out _ HT.out.mk9.b) ?_
        have HT := hidI HT.out.mk9
        generalize w5.alloc (.cells #[.slice none 0 0, .slice none 0 0] 35) = w6 at HT ⊢
        generalize w5.heap.size = q9 at HT ⊢
        simp only [Act.put, List.setIfInBounds_toArray, List.set_cons_zero, List.set_cons_succ]
        refine stepZ_2 (i := 3) (j := 5) (by kernel_rfl) ?_ ?_
        · refine stepZ_callTo 40 rfl rfl rfl (by go_simp) (alone_any ⟨o, d, r, n, r', n', f, []⟩ p1 m c1 _) ?_
          rintro e w7 ⟨d1, d2, d3, rfl, hA, hl, hb⟩
          have HT := hidI (HT.out.mk3 hb hA hl)
          refine ⟨_, rfl, HAll.out _ HT.out.b, ?_⟩
          clear hA hl hb
          simp only [Act.put, List.setIfInBounds_toArray, List.set_cons_zero, List.set_cons_succ]
          refine stepZ_1 (i := 5) (by kernel_rfl) ?_
          · refine stepZ_to 10 (.pointer (some ⟨w7.heap.size, 0, none⟩)) (w7.alloc (.cells #[.slice none 0 0, .slice none 0 0] 35)) rfl rfl rfl (by go_simp) (HAll.out _ HT.out.mk10.b) ?_
            have HT := hidI HT.out.mk10
            generalize w7.alloc (.cells #[.slice none 0 0, .slice none 0 0] 35) = w8 at HT ⊢
            generalize w7.heap.size = q10 at HT ⊢
            simp only [Act.put, List.setIfInBounds_toArray, List.set_cons_zero, List.set_cons_succ]
            obtain ⟨g9, hg9⟩ := HT.out.q9 _ rfl
            obtain ⟨g10, hg10⟩ := HT.out.q10 _ rfl
            obtain ⟨ka, fa9⟩ := blk hg9
            have k0 := ka 0; have k1 := ka 1
            have y9 := (Array.getElem?_eq_some_iff.1 hg9).1
            have hB6 := (HT.out.b.setCell (p := ⟨q9, 0, none⟩) (HT.out.q9 _ rfl).1 (.slice none 0 0)).setCell (p := ⟨q9, 1, none⟩) (HT.out.q9 _ rfl).1 (.slice (some ⟨b1, 0, none⟩) 1 1)
            have hD := HT.out.done
            have HD := hidI hD
            obtain ⟨kb, fb⟩ := blk (Two5.after hg10 (HT.out.ne _ _ rfl rfl) (.slice none 0 0) (.slice (some ⟨b1, 0, none⟩) 1 1))
            have k2 := kb 0; have k3 := kb 1
            have y10 := (Array.getElem?_eq_some_iff.1 hg10).1
            clear ka kb hD HT hg9 hg10
            refine stepZ_1 (i := 6) (by kernel_rfl) (stepZ_skipNo ((w8.setCell ⟨q9, 0, none⟩ (.slice none 0 0)).setCell ⟨q9, 1, none⟩ (.slice (some ⟨b1, 0, none⟩) 1 1)) rfl rfl rfl (by go_simp) (fun _ => ?_) ?_)
            · exact HAll.out _ hB6
            generalize hwx : (w8.setCell ⟨q9, 0, none⟩ (.slice none 0 0)).setCell ⟨q9, 1, none⟩ (.slice (some ⟨b1, 0, none⟩) 1 1) = wx at *
            refine stepZ_1 (i := 7) (by kernel_rfl) (stepZ_skipNo ((wx.setCell ⟨q10, 0, none⟩ (.slice none 0 0)).setCell ⟨q10, 1, none⟩ (.slice (some ⟨d1, 0, none⟩) 1 1)) rfl rfl rfl (by go_simp) (fun h => absurd rfl h) (wpAnyZ_done (by kernel_rfl) ?_ _))
            simp only [calm]
            generalize hwz : (wx.setCell ⟨q10, 0, none⟩ (.slice none 0 0)).setCell ⟨q10, 1, none⟩ (.slice (some ⟨d1, 0, none⟩) 1 1) = wz at *
            go_wp2_with fail
            go_meet
            exact ⟨q9, q10, rfl, rfl, HD.out⟩
        · refine stepZ_to 10 (.pointer (some ⟨w6.heap.size, 0, none⟩)) (w6.alloc (.cells #[.slice none 0 0, .slice none 0 0] 35)) rfl rfl rfl (by go_simp) (HAll.out _ HT.out.mk10.b) ?_
          have HT := hidI HT.out.mk10
          generalize w6.alloc (.cells #[.slice none 0 0, .slice none 0 0] 35) = w7 at HT ⊢
          generalize w6.heap.size = q10 at HT ⊢
          simp only [Act.put, List.setIfInBounds_toArray, List.set_cons_zero, List.set_cons_succ]
          refine stepZ_1 (i := 3) (by kernel_rfl) ?_
          · refine stepZ_callTo 40 rfl rfl rfl (by go_simp) (alone_any ⟨o, d, r, n, r', n', f, []⟩ p1 m c1 _) ?_
            rintro e w8 ⟨d1, d2, d3, rfl, hA, hl, hb⟩
            have HT := hidI (HT.out.mk3 hb hA hl)
            refine ⟨_, rfl, HAll.out _ HT.out.b, ?_⟩
            clear hA hl hb
            simp only [Act.put, List.setIfInBounds_toArray, List.set_cons_zero, List.set_cons_succ]
            obtain ⟨g9, hg9⟩ := HT.out.q9 _ rfl
            obtain ⟨g10, hg10⟩ := HT.out.q10 _ rfl
            obtain ⟨ka, fa9⟩ := blk hg9
            have k0 := ka 0; have k1 := ka 1
            have y9 := (Array.getElem?_eq_some_iff.1 hg9).1
            have hB6 := (HT.out.b.setCell (p := ⟨q9, 0, none⟩) (HT.out.q9 _ rfl).1 (.slice none 0 0)).setCell (p := ⟨q9, 1, none⟩) (HT.out.q9 _ rfl).1 (.slice (some ⟨b1, 0, none⟩) 1 1)
            have hD := HT.out.done
            have HD := hidI hD
            obtain ⟨kb, fb⟩ := blk (Two5.after hg10 (HT.out.ne _ _ rfl rfl) (.slice none 0 0) (.slice (some ⟨b1, 0, none⟩) 1 1))
            have k2 := kb 0; have k3 := kb 1
            have y10 := (Array.getElem?_eq_some_iff.1 hg10).1
            clear ka kb hD HT hg9 hg10
            refine stepZ_1 (i := 6) (by kernel_rfl) (stepZ_skipNo ((w8.setCell ⟨q9, 0, none⟩ (.slice none 0 0)).setCell ⟨q9, 1, none⟩ (.slice (some ⟨b1, 0, none⟩) 1 1)) rfl rfl rfl (by go_simp) (fun _ => ?_) ?_)
            · exact HAll.out _ hB6
            generalize hwx : (w8.setCell ⟨q9, 0, none⟩ (.slice none 0 0)).setCell ⟨q9, 1, none⟩ (.slice (some ⟨b1, 0, none⟩) 1 1) = wx at *
            refine stepZ_1 (i := 7) (by kernel_rfl) (stepZ_skipNo ((wx.setCell ⟨q10, 0, none⟩ (.slice none 0 0)).setCell ⟨q10, 1, none⟩ (.slice (some ⟨d1, 0, none⟩) 1 1)) rfl rfl rfl (by go_simp) (fun h => absurd rfl h) (wpAnyZ_done (by kernel_rfl) ?_ _))
            simp only [calm]
            generalize hwz : (wx.setCell ⟨q10, 0, none⟩ (.slice none 0 0)).setCell ⟨q10, 1, none⟩ (.slice (some ⟨d1, 0, none⟩) 1 1) = wz at *
            go_wp2_with fail
            go_meet
            exact ⟨q9, q10, rfl, rfl, HD.out⟩
      · refine stepZ_to 10 (.pointer (some ⟨w5.heap.size, 0, none⟩)) (w5.alloc (.cells #[.slice none 0 0, .slice none 0 0] 35)) rfl rfl rfl (by go_simp) (HAll.out _ HT.out.mk10.b) ?_
        have HT := hidI HT.out.mk10
        generalize w5.alloc (.cells #[.slice none 0 0, .slice none 0 0] 35) = w6 at HT ⊢
        generalize w5.heap.size = q10 at HT ⊢
        simp only [Act.put, List.setIfInBounds_toArray, List.set_cons_zero, List.set_cons_succ]
        refine stepZ_2 (i := 3) (j := 4) (by kernel_rfl) ?_ ?_
        · refine stepZ_callTo 40 rfl rfl rfl (by go_simp) (alone_any ⟨o, d, r, n, r', n', f, []⟩ p1 m c1 _) ?_
          rintro e w7 ⟨d1, d2, d3, rfl, hA, hl, hb⟩
          have HT := hidI (HT.out.mk3 hb hA hl)
          refine ⟨_, rfl, HAll.out _ HT.out.b, ?_⟩
          clear hA hl hb
          simp only [Act.put, List.setIfInBounds_toArray, List.set_cons_zero, List.set_cons_succ]
          refine stepZ_1 (i := 4) (by kernel_rfl) ?_
          · refine stepZ_to 9 (.pointer (some ⟨w7.heap.size, 0, none⟩)) (w7.alloc (.cells #[.slice none 0 0, .slice none 0 0] 35)) rfl rfl rfl (by go_simp) (HAll.out _ HT.out.mk9.b) ?_
            have HT := hidI HT.out.mk9
            generalize w7.alloc (.cells #[.slice none 0 0, .slice none 0 0] 35) = w8 at HT ⊢
            generalize w7.heap.size = q9 at HT ⊢
            simp only [Act.put, List.setIfInBounds_toArray, List.set_cons_zero, List.set_cons_succ]
            obtain ⟨g9, hg9⟩ := HT.out.q9 _ rfl
            obtain ⟨g10, hg10⟩ := HT.out.q10 _ rfl
            obtain ⟨ka, fa9⟩ := blk hg9
            have k0 := ka 0; have k1 := ka 1
            have y9 := (Array.getElem?_eq_some_iff.1 hg9).1
            have hB6 := (HT.out.b.setCell (p := ⟨q9, 0, none⟩) (HT.out.q9 _ rfl).1 (.slice none 0 0)).setCell (p := ⟨q9, 1, none⟩) (HT.out.q9 _ rfl).1 (.slice (some ⟨b1, 0, none⟩) 1 1)
            have hD := HT.out.done
            have HD := hidI hD
            obtain ⟨kb, fb⟩ := blk (Two5.after hg10 (HT.out.ne _ _ rfl rfl) (.slice none 0 0) (.slice (some ⟨b1, 0, none⟩) 1 1))
            have k2 := kb 0; have k3 := kb 1
            have y10 := (Array.getElem?_eq_some_iff.1 hg10).1
            clear ka kb hD HT hg9 hg10
            refine stepZ_1 (i := 6) (by kernel_rfl) (stepZ_skipNo ((w8.setCell ⟨q9, 0, none⟩ (.slice none 0 0)).setCell ⟨q9, 1, none⟩ (.slice (some ⟨b1, 0, none⟩) 1 1)) rfl rfl rfl (by go_simp) (fun _ => ?_) ?_)
            · exact HAll.out _ hB6
            generalize hwx : (w8.setCell ⟨q9, 0, none⟩ (.slice none 0 0)).setCell ⟨q9, 1, none⟩ (.slice (some ⟨b1, 0, none⟩) 1 1) = wx at *
            refine stepZ_1 (i := 7) (by kernel_rfl) (stepZ_skipNo ((wx.setCell ⟨q10, 0, none⟩ (.slice none 0 0)).setCell ⟨q10, 1, none⟩ (.slice (some ⟨d1, 0, none⟩) 1 1)) rfl rfl rfl (by go_simp) (fun h => absurd rfl h) (wpAnyZ_done (by kernel_rfl) ?_ _))
            simp only [calm]
            generalize hwz : (wx.setCell ⟨q10, 0, none⟩ (.slice none 0 0)).setCell ⟨q10, 1, none⟩ (.slice (some ⟨d1, 0, none⟩) 1 1) = wz at *
            go_wp2_with fail
            go_meet
            exact ⟨q9, q10, rfl, rfl, HD.out⟩
        · refine stepZ_to 9 (.pointer (some ⟨w6.heap.size, 0, none⟩)) (w6.alloc (.cells #[.slice none 0 0, .slice none 0 0] 35)) rfl rfl rfl (by go_simp) (HAll.out _ HT.out.mk9.b) ?_
          have HT := hidI HT.out.mk9
          generalize w6.alloc (.cells #[.slice none 0 0, .slice none 0 0] 35) = w7 at HT ⊢
          generalize w6.heap.size = q9 at HT ⊢
          simp only [Act.put, List.setIfInBounds_toArray, List.set_cons_zero, List.set_cons_succ]
          refine stepZ_1 (i := 3) (by kernel_rfl) ?_
          · refine stepZ_callTo 40 rfl rfl rfl (by go_simp) (alone_any ⟨o, d, r, n, r', n', f, []⟩ p1 m c1 _) ?_
            rintro e w8 ⟨d1, d2, d3, rfl, hA, hl, hb⟩
            have HT := hidI (HT.out.mk3 hb hA hl)
            refine ⟨_, rfl, HAll.out _ HT.out.b, ?_⟩
            clear hA hl hb
            simp only [Act.put, List.setIfInBounds_toArray, List.set_cons_zero, List.set_cons_succ]
            obtain ⟨g9, hg9⟩ := HT.out.q9 _ rfl
            obtain ⟨g10, hg10⟩ := HT.out.q10 _ rfl
            obtain ⟨ka, fa9⟩ := blk hg9
            have k0 := ka 0; have k1 := ka 1
            have y9 := (Array.getElem?_eq_some_iff.1 hg9).1
            have hB6 := (HT.out.b.setCell (p := ⟨q9, 0, none⟩) (HT.out.q9 _ rfl).1 (.slice none 0 0)).setCell (p := ⟨q9, 1, none⟩) (HT.out.q9 _ rfl).1 (.slice (some ⟨b1, 0, none⟩) 1 1)
            have hD := HT.out.done
            have HD := hidI hD
            obtain ⟨kb, fb⟩ := blk (Two5.after hg10 (HT.out.ne _ _ rfl rfl) (.slice none 0 0) (.slice (some ⟨b1, 0, none⟩) 1 1))
            have k2 := kb 0; have k3 := kb 1
            have y10 := (Array.getElem?_eq_some_iff.1 hg10).1
            clear ka kb hD HT hg9 hg10
            refine stepZ_1 (i := 6) (by kernel_rfl) (stepZ_skipNo ((w8.setCell ⟨q9, 0, none⟩ (.slice none 0 0)).setCell ⟨q9, 1, none⟩ (.slice (some ⟨b1, 0, none⟩) 1 1)) rfl rfl rfl (by go_simp) (fun _ => ?_) ?_)
            · exact HAll.out _ hB6
            generalize hwx : (w8.setCell ⟨q9, 0, none⟩ (.slice none 0 0)).setCell ⟨q9, 1, none⟩ (.slice (some ⟨b1, 0, none⟩) 1 1) = wx at *
            refine stepZ_1 (i := 7) (by kernel_rfl) (stepZ_skipNo ((wx.setCell ⟨q10, 0, none⟩ (.slice none 0 0)).setCell ⟨q10, 1, none⟩ (.slice (some ⟨d1, 0, none⟩) 1 1)) rfl rfl rfl (by go_simp) (fun h => absurd rfl h) (wpAnyZ_done (by kernel_rfl) ?_ _))
            simp only [calm]
            generalize hwz : (wx.setCell ⟨q10, 0, none⟩ (.slice none 0 0)).setCell ⟨q10, 1, none⟩ (.slice (some ⟨d1, 0, none⟩) 1 1) = wz at *
            go_wp2_with fail
            go_meet
            exact ⟨q9, q10, rfl, rfl, HD.out⟩
    · refine stepZ_to 9 (.pointer (some ⟨w4.heap.size, 0, none⟩)) (w4.alloc (.cells #[.slice none 0 0, .slice none 0 0] 35)) rfl rfl rfl (by go_simp) (HAll.out _ HT.out.mk9.b) ?_
      have HT := hidI HT.out.mk9
      generalize w4.alloc (.cells #[.slice none 0 0, .slice none 0 0] 35) = w5 at HT ⊢
      generalize w4.heap.size = q9 at HT ⊢
      simp only [Act.put, List.setIfInBounds_toArray, List.set_cons_zero, List.set_cons_succ]
      refine stepZ_2 (i := 1) (j := 5) (by kernel_rfl) ?_ ?_
      · refine stepZ_callTo 38 rfl rfl rfl (by go_simp) (alone_any ⟨x.op, 2, x.ar, x.an, x.br, x.bn, x.fn, x.args⟩ ap x.args.length ac _) ?_
        rintro e w6 ⟨b1, b2, b3, rfl, hA, hl, hb⟩
        have HT := hidI (HT.out.mk1 hb hA hl)
        refine ⟨_, rfl, HAll.out _ HT.out.b, ?_⟩
        clear hA hl hb
        simp only [Act.put, List.setIfInBounds_toArray, List.set_cons_zero, List.set_cons_succ]
        refine stepZ_2 (i := 3) (j := 5) (by kernel_rfl) ?_ ?_
        · refine stepZ_callTo 40 rfl rfl rfl (by go_simp) (alone_any ⟨o, d, r, n, r', n', f, []⟩ p1 m c1 _) ?_
          rintro e w7 ⟨d1, d2, d3, rfl, hA, hl, hb⟩
          have HT := hidI (HT.out.mk3 hb hA hl)
          refine ⟨_, rfl, HAll.out _ HT.out.b, ?_⟩
          clear hA hl hb
          simp only [Act.put, List.setIfInBounds_toArray, List.set_cons_zero, List.set_cons_succ]
          refine stepZ_1 (i := 5) (by kernel_rfl) ?_
          · refine stepZ_to 10 (.pointer (some ⟨w7.heap.size, 0, none⟩)) (w7.alloc (.cells #[.slice none 0 0, .slice none 0 0] 35)) rfl rfl rfl (by go_simp) (HAll.out _ HT.out.mk10.b) ?_
            have HT := hidI HT.out.mk10
            generalize w7.alloc (.cells #[.slice none 0 0, .slice none 0 0] 35) = w8 at HT ⊢
            generalize w7.heap.size = q10 at HT ⊢
            simp only [Act.put, List.setIfInBounds_toArray, List.set_cons_zero, List.set_cons_succ]
            obtain ⟨g9, hg9⟩ := HT.out.q9 _ rfl
            obtain ⟨g10, hg10⟩ := HT.out.q10 _ rfl
            obtain ⟨ka, fa9⟩ := blk hg9
            have k0 := ka 0; have k1 := ka 1
            have y9 := (Array.getElem?_eq_some_iff.1 hg9).1
            have hB6 := (HT.out.b.setCell (p := ⟨q9, 0, none⟩) (HT.out.q9 _ rfl).1 (.slice none 0 0)).setCell (p := ⟨q9, 1, none⟩) (HT.out.q9 _ rfl).1 (.slice (some ⟨b1, 0, none⟩) 1 1)
            have hD := HT.out.done
            have HD := hidI hD
            obtain ⟨kb, fb⟩ := blk (Two5.after hg10 (HT.out.ne _ _ rfl rfl) (.slice none 0 0) (.slice (some ⟨b1, 0, none⟩) 1 1))
            have k2 := kb 0; have k3 := kb 1
            have y10 := (Array.getElem?_eq_some_iff.1 hg10).1
            clear ka kb hD HT hg9 hg10
            refine stepZ_1 (i := 6) (by kernel_rfl) (stepZ_skipNo ((w8.setCell ⟨q9, 0, none⟩ (.slice none 0 0)).setCell ⟨q9, 1, none⟩ (.slice (some ⟨b1, 0, none⟩) 1 1)) rfl rfl rfl (by go_simp) (fun _ => ?_) ?_)
            · exact HAll.out _ hB6
            generalize hwx : (w8.setCell ⟨q9, 0, none⟩ (.slice none 0 0)).setCell ⟨q9, 1, none⟩ (.slice (some ⟨b1, 0, none⟩) 1 1) = wx at *
            refine stepZ_1 (i := 7) (by kernel_rfl) (stepZ_skipNo ((wx.setCell ⟨q10, 0, none⟩ (.slice none 0 0)).setCell ⟨q10, 1, none⟩ (.slice (some ⟨d1, 0, none⟩) 1 1)) rfl rfl rfl (by go_simp) (fun h => absurd rfl h) (wpAnyZ_done (by kernel_rfl) ?_ _))
            simp only [calm]
            generalize hwz : (wx.setCell ⟨q10, 0, none⟩ (.slice none 0 0)).setCell ⟨q10, 1, none⟩ (.slice (some ⟨d1, 0, none⟩) 1 1) = wz at *
            go_wp2_with fail
            go_meet
            exact ⟨q9, q10, rfl, rfl, HD.out⟩
        · refine stepZ_to 10 (.pointer (some ⟨w6.heap.size, 0, none⟩)) (w6.alloc (.cells #[.slice none 0 0, .slice none 0 0] 35)) rfl rfl rfl (by go_simp) (HAll.out _ HT.out.mk10.b) ?_
          have HT := hidI HT.out.mk10
          generalize w6.alloc (.cells #[.slice none 0 0, .slice none 0 0] 35) = w7 at HT ⊢
          generalize w6.heap.size = q10 at HT ⊢
          simp only [Act.put, List.setIfInBounds_toArray, List.set_cons_zero, List.set_cons_succ]
          refine stepZ_1 (i := 3) (by kernel_rfl) ?_
          · refine stepZ_callTo 40 rfl rfl rfl (by go_simp) (alone_any ⟨o, d, r, n, r', n', f, []⟩ p1 m c1 _) ?_
            rintro e w8 ⟨d1, d2, d3, rfl, hA, hl, hb⟩
            have HT := hidI (HT.out.mk3 hb hA hl)
            refine ⟨_, rfl, HAll.out _ HT.out.b, ?_⟩
            clear hA hl hb
            simp only [Act.put, List.setIfInBounds_toArray, List.set_cons_zero, List.set_cons_succ]
            obtain ⟨g9, hg9⟩ := HT.out.q9 _ rfl
            obtain ⟨g10, hg10⟩ := HT.out.q10 _ rfl
            obtain ⟨ka, fa9⟩ := blk hg9
            have k0 := ka 0; have k1 := ka 1
            have y9 := (Array.getElem?_eq_some_iff.1 hg9).1
            have hB6 := (HT.out.b.setCell (p := ⟨q9, 0, none⟩) (HT.out.q9 _ rfl).1 (.slice none 0 0)).setCell (p := ⟨q9, 1, none⟩) (HT.out.q9 _ rfl).1 (.slice (some ⟨b1, 0, none⟩) 1 1)
            have hD := HT.out.done
            have HD := hidI hD
            obtain ⟨kb, fb⟩ := blk (Two5.after hg10 (HT.out.ne _ _ rfl rfl) (.slice none 0 0) (.slice (some ⟨b1, 0, none⟩) 1 1))
            have k2 := kb 0; have k3 := kb 1
            have y10 := (Array.getElem?_eq_some_iff.1 hg10).1
            clear ka kb hD HT hg9 hg10
            refine stepZ_1 (i := 6) (by kernel_rfl) (stepZ_skipNo ((w8.setCell ⟨q9, 0, none⟩ (.slice none 0 0)).setCell ⟨q9, 1, none⟩ (.slice (some ⟨b1, 0, none⟩) 1 1)) rfl rfl rfl (by go_simp) (fun _ => ?_) ?_)
            · exact HAll.out _ hB6
            generalize hwx : (w8.setCell ⟨q9, 0, none⟩ (.slice none 0 0)).setCell ⟨q9, 1, none⟩ (.slice (some ⟨b1, 0, none⟩) 1 1) = wx at *
            refine stepZ_1 (i := 7) (by kernel_rfl) (stepZ_skipNo ((wx.setCell ⟨q10, 0, none⟩ (.slice none 0 0)).setCell ⟨q10, 1, none⟩ (.slice (some ⟨d1, 0, none⟩) 1 1)) rfl rfl rfl (by go_simp) (fun h => absurd rfl h) (wpAnyZ_done (by kernel_rfl) ?_ _))
            simp only [calm]
            generalize hwz : (wx.setCell ⟨q10, 0, none⟩ (.slice none 0 0)).setCell ⟨q10, 1, none⟩ (.slice (some ⟨d1, 0, none⟩) 1 1) = wz at *
            go_wp2_with fail
            go_meet
            exact ⟨q9, q10, rfl, rfl, HD.out⟩
      · refine stepZ_to 10 (.pointer (some ⟨w5.heap.size, 0, none⟩)) (w5.alloc (.cells #[.slice none 0 0, .slice none 0 0] 35)) rfl rfl rfl (by go_simp) (HAll.out _ HT.out.mk10.b) ?_
        have HT := hidI HT.out.mk10
        generalize w5.alloc (.cells #[.slice none 0 0, .slice none 0 0] 35) = w6 at HT ⊢
        generalize w5.heap.size = q10 at HT ⊢
        simp only [Act.put, List.setIfInBounds_toArray, List.set_cons_zero, List.set_cons_succ]
        refine stepZ_1 (i := 1) (by kernel_rfl) ?_
        · refine stepZ_callTo 38 rfl rfl rfl (by go_simp) (alone_any ⟨x.op, 2, x.ar, x.an, x.br, x.bn, x.fn, x.args⟩ ap x.args.length ac _) ?_
          rintro e w7 ⟨b1, b2, b3, rfl, hA, hl, hb⟩
          have HT := hidI (HT.out.mk1 hb hA hl)
          refine ⟨_, rfl, HAll.out _ HT.out.b, ?_⟩
          clear hA hl hb
          simp only [Act.put, List.setIfInBounds_toArray, List.set_cons_zero, List.set_cons_succ]
          refine stepZ_1 (i := 3) (by kernel_rfl) ?_
          · refine stepZ_callTo 40 rfl rfl rfl (by go_simp) (alone_any ⟨o, d, r, n, r', n', f, []⟩ p1 m c1 _) ?_
            rintro e w8 ⟨d1, d2, d3, rfl, hA, hl, hb⟩
            have HT := hidI (HT.out.mk3 hb hA hl)
            refine ⟨_, rfl, HAll.out _ HT.out.b, ?_⟩
            clear hA hl hb
            simp only [Act.put, List.setIfInBounds_toArray, List.set_cons_zero, List.set_cons_succ]
            obtain ⟨g9, hg9⟩ := HT.out.q9 _ rfl
            obtain ⟨g10, hg10⟩ := HT.out.q10 _ rfl
            obtain ⟨ka, fa9⟩ := blk hg9
            have k0 := ka 0; have k1 := ka 1
            have y9 := (Array.getElem?_eq_some_iff.1 hg9).1
            have hB6 := (HT.out.b.setCell (p := ⟨q9, 0, none⟩) (HT.out.q9 _ rfl).1 (.slice none 0 0)).setCell (p := ⟨q9, 1, none⟩) (HT.out.q9 _ rfl).1 (.slice (some ⟨b1, 0, none⟩) 1 1)
            have hD := HT.out.done
            have HD := hidI hD
            obtain ⟨kb, fb⟩ := blk (Two5.after hg10 (HT.out.ne _ _ rfl rfl) (.slice none 0 0) (.slice (some ⟨b1, 0, none⟩) 1 1))
            have k2 := kb 0; have k3 := kb 1
            have y10 := (Array.getElem?_eq_some_iff.1 hg10).1
            clear ka kb hD HT hg9 hg10
            refine stepZ_1 (i := 6) (by kernel_rfl) (stepZ_skipNo ((w8.setCell ⟨q9, 0, none⟩ (.slice none 0 0)).setCell ⟨q9, 1, none⟩ (.slice (some ⟨b1, 0, none⟩) 1 1)) rfl rfl rfl (by go_simp) (fun _ => ?_) ?_)
            · exact HAll.out _ hB6
            generalize hwx : (w8.setCell ⟨q9, 0, none⟩ (.slice none 0 0)).setCell ⟨q9, 1, none⟩ (.slice (some ⟨b1, 0, none⟩) 1 1) = wx at *
            refine stepZ_1 (i := 7) (by kernel_rfl) (stepZ_skipNo ((wx.setCell ⟨q10, 0, none⟩ (.slice none 0 0)).setCell ⟨q10, 1, none⟩ (.slice (some ⟨d1, 0, none⟩) 1 1)) rfl rfl rfl (by go_simp) (fun h => absurd rfl h) (wpAnyZ_done (by kernel_rfl) ?_ _))
            simp only [calm]
            generalize hwz : (wx.setCell ⟨q10, 0, none⟩ (.slice none 0 0)).setCell ⟨q10, 1, none⟩ (.slice (some ⟨d1, 0, none⟩) 1 1) = wz at *
            go_wp2_with fail
            go_meet
            exact ⟨q9, q10, rfl, rfl, HD.out⟩
    · refine stepZ_to 10 (.pointer (some ⟨w4.heap.size, 0, none⟩)) (w4.alloc (.cells #[.slice none 0 0, .slice none 0 0] 35)) rfl rfl rfl (by go_simp) (HAll.out _ HT.out.mk10.b) ?_
      have HT := hidI HT.out.mk10
      generalize w4.alloc (.cells #[.slice none 0 0, .slice none 0 0] 35) = w5 at HT ⊢
      generalize w4.heap.size = q10 at HT ⊢
      simp only [Act.put, List.setIfInBounds_toArray, List.set_cons_zero, List.set_cons_succ]
      refine stepZ_2 (i := 1) (j := 4) (by kernel_rfl) ?_ ?_
      · refine stepZ_callTo 38 rfl rfl rfl (by go_simp) (alone_any ⟨x.op, 2, x.ar, x.an, x.br, x.bn, x.fn, x.args⟩ ap x.args.length ac _) ?_
        rintro e w6 ⟨b1, b2, b3, rfl, hA, hl, hb⟩
        have HT := hidI (HT.out.mk1 hb hA hl)
        refine ⟨_, rfl, HAll.out _ HT.out.b, ?_⟩
        clear hA hl hb
        simp only [Act.put, List.setIfInBounds_toArray, List.set_cons_zero, List.set_cons_succ]
        refine stepZ_2 (i := 3) (j := 4) (by kernel_rfl) ?_ ?_
        · refine stepZ_callTo 40 rfl rfl rfl (by go_simp) (alone_any ⟨o, d, r, n, r', n', f, []⟩ p1 m c1 _) ?_
          rintro e w7 ⟨d1, d2, d3, rfl, hA, hl, hb⟩
          have HT := hidI (HT.out.mk3 hb hA hl)
          refine ⟨_, rfl, HAll.out _ HT.out.b, ?_⟩
          clear hA hl hb
          simp only [Act.put, List.setIfInBounds_toArray, List.set_cons_zero, List.set_cons_succ]
          refine stepZ_1 (i := 4) (by kernel_rfl) ?_
          · refine stepZ_to 9 (.pointer (some ⟨w7.heap.size, 0, none⟩)) (w7.alloc (.cells #[.slice none 0 0, .slice none 0 0] 35)) rfl rfl rfl (by go_simp) (HAll.out _ HT.out.mk9.b) ?_
            have HT := hidI HT.out.mk9
            generalize w7.alloc (.cells #[.slice none 0 0, .slice none 0 0] 35) = w8 at HT ⊢
            generalize w7.heap.size = q9 at HT ⊢
            simp only [Act.put, List.setIfInBounds_toArray, List.set_cons_zero, List.set_cons_succ]
            obtain ⟨g9, hg9⟩ := HT.out.q9 _ rfl
            obtain ⟨g10, hg10⟩ := HT.out.q10 _ rfl
            obtain ⟨ka, fa9⟩ := blk hg9
            have k0 := ka 0; have k1 := ka 1
            have y9 := (Array.getElem?_eq_some_iff.1 hg9).1
            have hB6 := (HT.out.b.setCell (p := ⟨q9, 0, none⟩) (HT.out.q9 _ rfl).1 (.slice none 0 0)).setCell (p := ⟨q9, 1, none⟩) (HT.out.q9 _ rfl).1 (.slice (some ⟨b1, 0, none⟩) 1 1)
            have hD := HT.out.done
            have HD := hidI hD
            obtain ⟨kb, fb⟩ := blk (Two5.after hg10 (HT.out.ne _ _ rfl rfl) (.slice none 0 0) (.slice (some ⟨b1, 0, none⟩) 1 1))
            have k2 := kb 0; have k3 := kb 1
            have y10 := (Array.getElem?_eq_some_iff.1 hg10).1
            clear ka kb hD HT hg9 hg10
            refine stepZ_1 (i := 6) (by kernel_rfl) (stepZ_skipNo ((w8.setCell ⟨q9, 0, none⟩ (.slice none 0 0)).setCell ⟨q9, 1, none⟩ (.slice (some ⟨b1, 0, none⟩) 1 1)) rfl rfl rfl (by go_simp) (fun _ => ?_) ?_)
            · exact HAll.out _ hB6
            generalize hwx : (w8.setCell ⟨q9, 0, none⟩ (.slice none 0 0)).setCell ⟨q9, 1, none⟩ (.slice (some ⟨b1, 0, none⟩) 1 1) = wx at *
            refine stepZ_1 (i := 7) (by kernel_rfl) (stepZ_skipNo ((wx.setCell ⟨q10, 0, none⟩ (.slice none 0 0)).setCell ⟨q10, 1, none⟩ (.slice (some ⟨d1, 0, none⟩) 1 1)) rfl rfl rfl (by go_simp) (fun h => absurd rfl h) (wpAnyZ_done (by kernel_rfl) ?_ _))
            simp only [calm]
            generalize hwz : (wx.setCell ⟨q10, 0, none⟩ (.slice none 0 0)).setCell ⟨q10, 1, none⟩ (.slice (some ⟨d1, 0, none⟩) 1 1) = wz at *
            go_wp2_with fail
            go_meet
            exact ⟨q9, q10, rfl, rfl, HD.out⟩
        · refine stepZ_to 9 (.pointer (some ⟨w6.heap.size, 0, none⟩)) (w6.alloc (.cells #[.slice none 0 0, .slice none 0 0] 35)) rfl rfl rfl (by go_simp) (HAll.out _ HT.out.mk9.b) ?_
          have HT := hidI HT.out.mk9
          generalize w6.alloc (.cells #[.slice none 0 0, .slice none 0 0] 35) = w7 at HT ⊢
          generalize w6.heap.size = q9 at HT ⊢
          simp only [Act.put, List.setIfInBounds_toArray, List.set_cons_zero, List.set_cons_succ]
          refine stepZ_1 (i := 3) (by kernel_rfl) ?_
          · refine stepZ_callTo 40 rfl rfl rfl (by go_simp) (alone_any ⟨o, d, r, n, r', n', f, []⟩ p1 m c1 _) ?_
            rintro e w8 ⟨d1, d2, d3, rfl, hA, hl, hb⟩
            have HT := hidI (HT.out.mk3 hb hA hl)
            refine ⟨_, rfl, HAll.out _ HT.out.b, ?_⟩
            clear hA hl hb
            simp only [Act.put, List.setIfInBounds_toArray, List.set_cons_zero, List.set_cons_succ]
            obtain ⟨g9, hg9⟩ := HT.out.q9 _ rfl
            obtain ⟨g10, hg10⟩ := HT.out.q10 _ rfl
            obtain ⟨ka, fa9⟩ := blk hg9
            have k0 := ka 0; have k1 := ka 1
            have y9 := (Array.getElem?_eq_some_iff.1 hg9).1
            have hB6 := (HT.out.b.setCell (p := ⟨q9, 0, none⟩) (HT.out.q9 _ rfl).1 (.slice none 0 0)).setCell (p := ⟨q9, 1, none⟩) (HT.out.q9 _ rfl).1 (.slice (some ⟨b1, 0, none⟩) 1 1)
            have hD := HT.out.done
            have HD := hidI hD
            obtain ⟨kb, fb⟩ := blk (Two5.after hg10 (HT.out.ne _ _ rfl rfl) (.slice none 0 0) (.slice (some ⟨b1, 0, none⟩) 1 1))
            have k2 := kb 0; have k3 := kb 1
            have y10 := (Array.getElem?_eq_some_iff.1 hg10).1
            clear ka kb hD HT hg9 hg10
            refine stepZ_1 (i := 6) (by kernel_rfl) (stepZ_skipNo ((w8.setCell ⟨q9, 0, none⟩ (.slice none 0 0)).setCell ⟨q9, 1, none⟩ (.slice (some ⟨b1, 0, none⟩) 1 1)) rfl rfl rfl (by go_simp) (fun _ => ?_) ?_)
            · exact HAll.out _ hB6
            generalize hwx : (w8.setCell ⟨q9, 0, none⟩ (.slice none 0 0)).setCell ⟨q9, 1, none⟩ (.slice (some ⟨b1, 0, none⟩) 1 1) = wx at *
            refine stepZ_1 (i := 7) (by kernel_rfl) (stepZ_skipNo ((wx.setCell ⟨q10, 0, none⟩ (.slice none 0 0)).setCell ⟨q10, 1, none⟩ (.slice (some ⟨d1, 0, none⟩) 1 1)) rfl rfl rfl (by go_simp) (fun h => absurd rfl h) (wpAnyZ_done (by kernel_rfl) ?_ _))
            simp only [calm]
            generalize hwz : (wx.setCell ⟨q10, 0, none⟩ (.slice none 0 0)).setCell ⟨q10, 1, none⟩ (.slice (some ⟨d1, 0, none⟩) 1 1) = wz at *
            go_wp2_with fail
            go_meet
            exact ⟨q9, q10, rfl, rfl, HD.out⟩
      · refine stepZ_to 9 (.pointer (some ⟨w5.heap.size, 0, none⟩)) (w5.alloc (.cells #[.slice none 0 0, .slice none 0 0] 35)) rfl rfl rfl (by go_simp) (HAll.out _ HT.out.mk9.b) ?_
        have HT := hidI HT.out.mk9
        generalize w5.alloc (.cells #[.slice none 0 0, .slice none 0 0] 35) = w6 at HT ⊢
        generalize w5.heap.size = q9 at HT ⊢
        simp only [Act.put, List.setIfInBounds_toArray, List.set_cons_zero, List.set_cons_succ]
        refine stepZ_1 (i := 1) (by kernel_rfl) ?_
        · refine stepZ_callTo 38 rfl rfl rfl (by go_simp) (alone_any ⟨x.op, 2, x.ar, x.an, x.br, x.bn, x.fn, x.args⟩ ap x.args.length ac _) ?_
          rintro e w7 ⟨b1, b2, b3, rfl, hA, hl, hb⟩
          have HT := hidI (HT.out.mk1 hb hA hl)
          refine ⟨_, rfl, HAll.out _ HT.out.b, ?_⟩
          clear hA hl hb
          simp only [Act.put, List.setIfInBounds_toArray, List.set_cons_zero, List.set_cons_succ]
          refine stepZ_1 (i := 3) (by kernel_rfl) ?_
          · refine stepZ_callTo 40 rfl rfl rfl (by go_simp) (alone_any ⟨o, d, r, n, r', n', f, []⟩ p1 m c1 _) ?_
            rintro e w8 ⟨d1, d2, d3, rfl, hA, hl, hb⟩
            have HT := hidI (HT.out.mk3 hb hA hl)
            refine ⟨_, rfl, HAll.out _ HT.out.b, ?_⟩
            clear hA hl hb
            simp only [Act.put, List.setIfInBounds_toArray, List.set_cons_zero, List.set_cons_succ]
            obtain ⟨g9, hg9⟩ := HT.out.q9 _ rfl
            obtain ⟨g10, hg10⟩ := HT.out.q10 _ rfl
            obtain ⟨ka, fa9⟩ := blk hg9
            have k0 := ka 0; have k1 := ka 1
            have y9 := (Array.getElem?_eq_some_iff.1 hg9).1
            have hB6 := (HT.out.b.setCell (p := ⟨q9, 0, none⟩) (HT.out.q9 _ rfl).1 (.slice none 0 0)).setCell (p := ⟨q9, 1, none⟩) (HT.out.q9 _ rfl).1 (.slice (some ⟨b1, 0, none⟩) 1 1)
            have hD := HT.out.done
            have HD := hidI hD
            obtain ⟨kb, fb⟩ := blk (Two5.after hg10 (HT.out.ne _ _ rfl rfl) (.slice none 0 0) (.slice (some ⟨b1, 0, none⟩) 1 1))
            have k2 := kb 0; have k3 := kb 1
            have y10 := (Array.getElem?_eq_some_iff.1 hg10).1
            clear ka kb hD HT hg9 hg10
            refine stepZ_1 (i := 6) (by kernel_rfl) (stepZ_skipNo ((w8.setCell ⟨q9, 0, none⟩ (.slice none 0 0)).setCell ⟨q9, 1, none⟩ (.slice (some ⟨b1, 0, none⟩) 1 1)) rfl rfl rfl (by go_simp) (fun _ => ?_) ?_)
            · exact HAll.out _ hB6
            generalize hwx : (w8.setCell ⟨q9, 0, none⟩ (.slice none 0 0)).setCell ⟨q9, 1, none⟩ (.slice (some ⟨b1, 0, none⟩) 1 1) = wx at *
            refine stepZ_1 (i := 7) (by kernel_rfl) (stepZ_skipNo ((wx.setCell ⟨q10, 0, none⟩ (.slice none 0 0)).setCell ⟨q10, 1, none⟩ (.slice (some ⟨d1, 0, none⟩) 1 1)) rfl rfl rfl (by go_simp) (fun h => absurd rfl h) (wpAnyZ_done (by kernel_rfl) ?_ _))
            simp only [calm]
            generalize hwz : (wx.setCell ⟨q10, 0, none⟩ (.slice none 0 0)).setCell ⟨q10, 1, none⟩ (.slice (some ⟨d1, 0, none⟩) 1 1) = wz at *
            go_wp2_with fail
            go_meet
            exact ⟨q9, q10, rfl, rfl, HD.out⟩
  case rest =>
    obtain ⟨q9, q10, rfl, rfl, b1, b2, b3, d1, d2, d3, hbc, hAx, hAy, g9, g10⟩ := hcut
    have HUx : Hid (UnA (aloneU ⟨x.op, 2, x.ar, x.an, x.br, x.bn, x.fn, x.args⟩) none (some ⟨b1, 0, none⟩) wc) := hidI (alone_un (x := ⟨x.op, 2, x.ar, x.an, x.br, x.bn, x.fn, x.args⟩) hAx (HW.out.below (HBW.out.trans (hbc.mono HBW.out.size))) i1 (by show I64 2; unfold I64; omega) i3 i4 i5 (HS.out.mono (HBW.out.trans (hbc.mono HBW.out.size)) (by omega) fun _ _ h => h))
    have HAy := hidI hAy
    have HBc := hidI hbc
    have HG10 := hidI g10
    obtain ⟨k9, _⟩ := blk g9
    have k90 : wc.cell? ⟨q9, 0, none⟩ = some (.slice none 0 0) := k9 0
    have k91 : wc.cell? ⟨q9, 1, none⟩ = some (.slice (some ⟨b1, 0, none⟩) 1 1) := k9 1
    have HG9 := hidI g9
    have y9 := (Array.getElem?_eq_some_iff.1 g9).1
    clear hAx hAy hbc g9 g10 k9
    go_wp2_with fail
    refine (check_un (gc := 0) (fc := 1) HUx.out).mono ?_
    rintro e w6 ⟨rfl, hb6⟩
    have HB6 : Hid (Below W.heap.size W w6) := HBc.out.trans (hb6.mono HBc.out.size)
    have H6 := hidI hb6
    have hb0 := HB6.out.size
    have cy0 : w6.cell? ⟨w2.heap.size, 0, none⟩ = some (.int .i64 o) := ((blk (heap_below HB6.out zW HXY.out.2)).1 0).trans rfl
    have hs6 := H6.out.size
    have z6 : w2.heap.size < w6.heap.size := by omega
    have HB6w : Hid (Below w.heap.size w w6) := HBW.out.trans (HB6.out.mono HBW.out.size)
    have k90 := (hb6.cell (p := ⟨q9, 0, none⟩) y9).trans k90
    have k91 := (hb6.cell (p := ⟨q9, 1, none⟩) y9).trans k91
    have z9 : q9 < w6.heap.size := by have := hb6.size; omega
    clear hb6
    generalize hck : (chk (aloneU ⟨x.op, 2, x.ar, x.an, x.br, x.bn, x.fn, x.args⟩)).1 = ck
    generalize (chk (aloneU ⟨x.op, 2, x.ar, x.an, x.br, x.bn, x.fn, x.args⟩)).2 = ck2
    have HCk := hidI hck
    have hfd := fun w => run_fieldC ck ck2 w
    clear hck
    by_cases hz : ck = 0
    · have hq0 : (ck != 0) = false := by rw [hz]; rfl
      have HL : Hid (Lone ⟨x.op, 2, x.ar, x.an, x.br, x.bn, x.fn, x.args⟩) := hidI (lone_of (u := aloneU _) (f := aloneF _) rfl (alone_ins (HCk.out.trans hz)) ⟨h1, h2⟩ rfl)
      have hargs : x.args = [] := HL.out.args
      have hfn : x.fn = 0 := HL.out.fn
      have hm0 : m = 0 := by rw [← HM.out, hargs]; simp
      have HL2 : Hid (Lone (instL ⟨x.op, 2, x.ar, x.an, x.br, x.bn, 0, ap, 0, ac⟩ [])) := hidI (by have := HL.out; rw [hargs, hfn] at this; exact this)
      have HY : Hid (instL (oneI x.op 2 x.an x.bn 0 x.ar x.br ap 0 ac) [] = ⟨o, d, r, n, r', n', f, []⟩) := hidI (by rw [← hfn, HK.out]; rfl)
      have HLy : Hid (Lone ⟨o, d, r, n, r', n', f, []⟩) := hidI (by rw [← HY.out]; exact lone_one HL2.out)
      obtain ⟨t1, t2, t3, t4, t5⟩ := oneI_i64 (x := oneI x.op 2 x.an x.bn x.fn x.ar x.br ap 0 ac) rfl i1 i3 i4 i5
      rw [HK.out] at t1 t2 t3 t4 t5
      have HUy : Hid (UnA (aloneU ⟨o, d, r, n, r', n', f, []⟩) none (some ⟨d1, 0, none⟩) wc) := hidI (alone_un (x := ⟨o, d, r, n, r', n', f, []⟩) (by have h := HAy.out; rw [hm0] at h; exact h) (HW.out.below (HBW.out.trans (HBc.out.mono HBW.out.size))) t1 t2 t3 t4 t5 ⟨p1, c1, rfl, fun e => ⟨rfl, (hQ1.out e).2⟩, Nat.zero_le _, by show 0 * 16 ≤ reachBytes; decide, .inl rfl⟩)
      have HSame : Hid (comesO (runU (aloneU ⟨o, d, r, n, r', n', f, []⟩) [a, b] 9) = comesO (runU (aloneU ⟨x.op, 2, x.ar, x.an, x.br, x.bn, x.fn, x.args⟩) [a, b] 9)) := hidI (by
        have h := alone_same HL2.out HI3.out i4 hA hB
        rw [HY.out] at h
        rw [h, hargs, hfn]
        rfl)
      have hlen : (comesO (runU (aloneU ⟨x.op, 2, x.ar, x.an, x.br, x.bn, x.fn, x.args⟩) [a, b] 9)).2.2.1.length ≤ 1 := by
        rw [alone_run HL.out]
        unfold loneO
        split <;> simp
      obtain ⟨st, va, ou, sp, hx⟩ : ∃ st va ou sp, comesO (runU (aloneU ⟨x.op, 2, x.ar, x.an, x.br, x.bn, x.fn, x.args⟩) [a, b] 9) = (st, va, ou, sp) := ⟨_, _, _, _, rfl⟩
      have HX := hidI hx
      have HXy := hidI (HSame.out.trans hx)
      rw [hx] at hlen
      have hol : ou.length ≤ 140737488355328 := Nat.le_trans hlen (by omega)
      have ho : decide ((0 : Int) < o) = true := by rw [decide_eq_true_iff]; have := HLy.out.op.1; have e : (1 : Int) ≤ o := this; omega
      have HAB := hidI (And.intro hA hB)
      clear hlen hx t1 t2 t3 t4 t5 hargs hfn hm0 hz
      go_wp2_with fail
      refine (do_alone (HUx.out.mono (H6.out.trans ?_)) HL.out HX.out (ints_two (heap_at rfl) HAB.out.1 HAB.out.2)).mono ?_
      · repeat (first | with_reducible exact Below.refl _ _ | with_reducible exact HB3.out | with_reducible refine Below.drew ?_ | with_reducible refine below_drewN ?_ _ | with_reducible refine Below.setCell ?_ ?_ _ | with_reducible refine Below.alloc ?_ ?_ _ | with_reducible exact HB2.out | with_reducible exact HB1.out | with_reducible refine Below.trans ?_ (Below.mono hb3 ?_) | with_reducible refine Below.trans ?_ (Below.mono hb5 ?_) | with_reducible refine Below.trans ?_ (Below.mono hb4 ?_) | omega | (simp; omega) | simp)
      rintro e w7 ⟨p7, c7, rfl, hS7, hb7⟩
      have h67 : Below w6.heap.size w6 w7 := Below.trans (by repeat (first | with_reducible exact Below.refl _ _ | with_reducible exact HB3.out | with_reducible refine Below.drew ?_ | with_reducible refine below_drewN ?_ _ | with_reducible refine Below.setCell ?_ ?_ _ | with_reducible refine Below.alloc ?_ ?_ _ | with_reducible exact HB2.out | with_reducible exact HB1.out | with_reducible refine Below.trans ?_ (Below.mono hb3 ?_) | with_reducible refine Below.trans ?_ (Below.mono hb5 ?_) | with_reducible refine Below.trans ?_ (Below.mono hb4 ?_) | omega | (simp; omega) | simp)) (hb7.mono (by first | (simp; done) | (simp; omega)))
      have hs67 := h67.size
      have HS7 := hidI hS7
      have H7 : Hid (Below wc.heap.size wc w7) := H6.out.trans (h67.mono H6.out.size)
      have hk10 := blk (heap_below H7.out (Array.getElem?_eq_some_iff.1 HG10.out).1 HG10.out)
      have k100 : w7.cell? ⟨q10, 0, none⟩ = some (.slice none 0 0) := hk10.1 0
      have k101 : w7.cell? ⟨q10, 1, none⟩ = some (.slice (some ⟨d1, 0, none⟩) 1 1) := hk10.1 1
      have y10 : q10 < w7.heap.size := by have h1 := (Array.getElem?_eq_some_iff.1 HG10.out).1; have h2 := H7.out.size; omega
      have cy7 := (h67.cell (p := ⟨w2.heap.size, 0, none⟩) z6).trans cy0
      have z7 : w2.heap.size < w7.heap.size := by omega
      have HB7w : Hid (Below w.heap.size w w7) := HB6w.out.trans (h67.mono HB6w.out.size)
      clear hS7 hb7 h67 hk10 cy0 k90 k91
      go_wp2_with fail
      refine (do_alone (HUy.out.mono (H7.out.trans ?_)) HLy.out HXy.out (ints_two (heap_at (by simp)) HAB.out.1 HAB.out.2)).mono ?_
      · have hs7 := H7.out.size
        repeat (first | with_reducible exact Below.refl _ _ | with_reducible exact HB3.out | with_reducible refine Below.drew ?_ | with_reducible refine below_drewN ?_ _ | with_reducible refine Below.setCell ?_ ?_ _ | with_reducible refine Below.alloc ?_ ?_ _ | with_reducible exact HB2.out | with_reducible exact HB1.out | with_reducible refine Below.trans ?_ (Below.mono hb3 ?_) | with_reducible refine Below.trans ?_ (Below.mono hb5 ?_) | with_reducible refine Below.trans ?_ (Below.mono hb4 ?_) | omega | (simp; omega) | simp)
      rintro e w8 ⟨p8, c8, rfl, hS8, hb8⟩
      have h78 : Below w7.heap.size w7 w8 := Below.trans (by repeat (first | with_reducible exact Below.refl _ _ | with_reducible exact HB3.out | with_reducible refine Below.drew ?_ | with_reducible refine below_drewN ?_ _ | with_reducible refine Below.setCell ?_ ?_ _ | with_reducible refine Below.alloc ?_ ?_ _ | with_reducible exact HB2.out | with_reducible exact HB1.out | with_reducible refine Below.trans ?_ (Below.mono hb3 ?_) | with_reducible refine Below.trans ?_ (Below.mono hb5 ?_) | with_reducible refine Below.trans ?_ (Below.mono hb4 ?_) | omega | (simp; omega) | simp)) (hb8.mono (by first | (simp; done) | (simp; omega)))
      have HB8w : Hid (Below w.heap.size w w8) := HB7w.out.trans (h78.mono HB7w.out.size)
      have ca := (blk (heap_below hb8 (k := w7.heap.size) (by first | (simp; done) | (simp; omega)) (heap_step (heap_step (heap_at (w := w7) (o := .cells #[.int .i64 st, .int .i64 va, .slice p7 ou.length c7, .int .i64 sp] 40) rfl))))).1
      have cb := (blk (heap_below hb8 (k := w7.heap.size + 1) (by first | (simp; done) | (simp; omega)) (heap_step (heap_at (w := w7.alloc _) (o := .cells #[.int .i64 0, .int .i64 0] 28) (by simp))))).1
      have ca0 : w8.cell? ⟨w7.heap.size, 0, none⟩ = some (.int .i64 st) := ca 0
      have ca1 : w8.cell? ⟨w7.heap.size, 1, none⟩ = some (.int .i64 va) := ca 1
      have ca2 : w8.cell? ⟨w7.heap.size, 2, none⟩ = some (.slice p7 ou.length c7) := ca 2
      have ca3 : w8.cell? ⟨w7.heap.size, 3, none⟩ = some (.int .i64 sp) := ca 3
      have cb0 : w8.cell? ⟨w7.heap.size + 1, 0, none⟩ = some (.int .i64 0) := cb 0
      have v1 : w7.heap.size + 1 < w8.heap.size := by have := hb8.size; simp at this; omega
      have v2 : w7.heap.size < w8.heap.size := by omega
      have v3 : w7.heap.size + 1 < w8.heap.size + 1 := by omega
      have v4 : w7.heap.size < w8.heap.size + 1 := by omega
      have v5 : w2.heap.size < w8.heap.size := by omega
      have v6 : w2.heap.size < w8.heap.size + 1 := by omega
      have hs8 := HB8w.out.size
      have cy8 := (h78.cell (p := ⟨w2.heap.size, 0, none⟩) z7).trans cy7
      have HS7' := hidI (HS7.out.mono h78 (by omega) fun _ _ g => g)
      have HS8 := hidI hS8
      have HOc := hidI fun (W : World) (h : Below w8.heap.size w8 W) => outcomes_any st st va va sp sp ou ou p7 p8 c7 c8 W hol hol (HS7'.out.mono h (by omega) fun _ _ g => g) (HS8.out.mono h (by omega) fun _ _ g => g)
      have he : decide ((st = st ∧ va = va ∧ ou = ou) ∧ (sp : Int) = (sp : Int)) = true := by simp
      rw [he] at HOc
      clear hS8 hb8 h78 ca cb he cy7 k100 k101
      go_wp2_with fail
      refine (HOc.out _ (by repeat (first | with_reducible exact Below.refl _ _ | with_reducible exact HB3.out | with_reducible refine Below.drew ?_ | with_reducible refine below_drewN ?_ _ | with_reducible refine Below.setCell ?_ ?_ _ | with_reducible refine Below.alloc ?_ ?_ _ | with_reducible exact HB2.out | with_reducible exact HB1.out | with_reducible refine Below.trans ?_ (Below.mono hb3 ?_) | with_reducible refine Below.trans ?_ (Below.mono hb5 ?_) | with_reducible refine Below.trans ?_ (Below.mono hb4 ?_) | omega | (simp; omega) | simp))).mono ?_
      rintro e w9 ⟨rfl, hb9⟩
      have HB9 : Hid (Below w.heap.size w w9) := HB8w.out.trans (Below.trans (by repeat (first | with_reducible exact Below.refl _ _ | with_reducible exact HB3.out | with_reducible refine Below.drew ?_ | with_reducible refine below_drewN ?_ _ | with_reducible refine Below.setCell ?_ ?_ _ | with_reducible refine Below.alloc ?_ ?_ _ | with_reducible exact HB2.out | with_reducible exact HB1.out | with_reducible refine Below.trans ?_ (Below.mono hb3 ?_) | with_reducible refine Below.trans ?_ (Below.mono hb5 ?_) | with_reducible refine Below.trans ?_ (Below.mono hb4 ?_) | omega | (simp; omega) | simp)) (hb9.mono (by first | (simp; done) | (simp; omega))))
      clear hb9
      go_wp2_with fail
      go_ret
      exact ⟨rfl, HB9.out⟩
    · have hq0 : (ck != 0) = true := by rw [bne_iff_ne]; exact hz
      have ho : decide ((0 : Int) < o) = true := by
        rw [decide_eq_true_iff]
        have h := oneI_pos (x := oneI x.op 2 x.an x.bn x.fn x.ar x.br ap 0 ac) rfl h1
        rw [HK.out] at h
        have h : 1 ≤ o := h
        omega
      clear hz
      go_wp2_with fail
      go_ret
      exact ⟨rfl, HB6w.out⟩

set_option maxRecDepth 100000 in
set_option maxHeartbeats 1000000 in
theorem mean_high (x : InsL) (ap : Option Addr) (ac : Nat) (a b : Int) (w : World) (h1 : 18 ≤ x.op) (h2 : x.op ≤ 22) (i3 : I64 x.an) (hs : SlF w 2 16 ValR (.slice ap x.args.length ac) x.args) :
    Calls Tryd.prog 3 #[.agg #[.int .i64 x.op, .int .i64 x.dst, .bool x.ar, .int .i64 x.an, .bool x.br, .int .i64 x.bn, .int .i64 x.fn, .slice ap x.args.length ac], .int .i64 a, .int .i64 b] w fun e w' => e = .returned (.bool true) ∧ Below w.heap.size w w' := by
  obtain ⟨o, d, r, n, r', n', f, k, hk⟩ := oneI_keeps x.op 2 x.an x.bn x.fn x.ar x.br
  have hv : ValsAt w ap x.args.length (fun i => x.args.getD i (false, 0)) := by
    obtain ⟨p, c, e, _, _, hs⟩ := hs.outX
    cases e
    exact hs.valsX
  have hq : ap = none → x.args.length = 0 ∧ ac = 0 := by
    obtain ⟨p, c, e, hq, _⟩ := hs
    cases e
    exact hq
  have hl : x.args.length * 16 ≤ 140737488355328 := by
    obtain ⟨p, c, _, hl, _⟩ := hs.out
    omega
  have h17 : decide ((17 : Int) < x.op) = true := by rw [decide_eq_true_iff]; omega
  have HK : Hid (∀ (ap : Option Addr) (al ac : Nat), oneI x.op 2 x.an x.bn x.fn x.ar x.br ap al ac = ⟨o, d, r, n, r', n', f, if k then ap else none, if k then al else 0, if k then ac else 0⟩) := hk
  have HV := hidI hv
  have HQ := hidI hq
  have HI3 := hidI i3
  clear hk hs hv hq
  generalize hmm : (if k then x.args.length else 0) = m
  have HM : Hid ((if k then x.args.length else 0) = m) := hmm
  clear hmm
  go_enter Tryd.func3, Tryd.ntmps3
  go_wp2_with fail
  refine (One_any _ _ _ _ _ _ _ _ _ _ _ _ (by omega) h2 HI3.out hl HQ.out (HV.out.below (by repeat (first | with_reducible exact Below.refl _ _ | with_reducible exact HB3.out | with_reducible refine Below.drew ?_ | with_reducible refine below_drewN ?_ _ | with_reducible refine Below.setCell ?_ ?_ _ | with_reducible refine Below.alloc ?_ ?_ _ | with_reducible exact HB2.out | with_reducible exact HB1.out | with_reducible refine Below.trans ?_ (Below.mono hb3 ?_) | with_reducible refine Below.trans ?_ (Below.mono hb5 ?_) | with_reducible refine Below.trans ?_ (Below.mono hb4 ?_) | omega | (simp; omega) | simp)))).mono ?_
  rintro e w2 ⟨hpost, hb2⟩
  obtain ⟨p1, c1, rfl, hV1, hQ1⟩ := hpost.keep HK.out
  rw [HM.out]
  have HB1 : Hid (Below w.heap.size w w2) := Below.trans (by repeat (first | with_reducible exact Below.refl _ _ | with_reducible exact HB3.out | with_reducible refine Below.drew ?_ | with_reducible refine below_drewN ?_ _ | with_reducible refine Below.setCell ?_ ?_ _ | with_reducible refine Below.alloc ?_ ?_ _ | with_reducible exact HB2.out | with_reducible exact HB1.out | with_reducible refine Below.trans ?_ (Below.mono hb3 ?_) | with_reducible refine Below.trans ?_ (Below.mono hb5 ?_) | with_reducible refine Below.trans ?_ (Below.mono hb4 ?_) | omega | (simp; omega) | simp)) (hb2.mono (by first | (simp; done) | (simp; omega)))
  obtain ⟨ca, fa⟩ := blk (heap_below (k := w.heap.size) hb2 (by first | (simp; done) | (simp; omega)) (heap_at rfl))
  have z1 : w.heap.size < w2.heap.size := by have := hb2.size; simp at this; omega
  have z2 : w.heap.size < w2.heap.size + 1 := by omega
  have z3 : w.heap.size < w2.heap.size + 1 + 1 := by omega
  clear hb2 hpost hV1 hQ1
  go_wp2_with fail
  go_ret
  exact ⟨rfl, by repeat (first | with_reducible exact Below.refl _ _ | with_reducible exact HB3.out | with_reducible refine Below.drew ?_ | with_reducible refine below_drewN ?_ _ | with_reducible refine Below.setCell ?_ ?_ _ | with_reducible refine Below.alloc ?_ ?_ _ | with_reducible exact HB2.out | with_reducible exact HB1.out | with_reducible refine Below.trans ?_ (Below.mono hb3 ?_) | with_reducible refine Below.trans ?_ (Below.mono hb5 ?_) | with_reducible refine Below.trans ?_ (Below.mono hb4 ?_) | omega | (simp; omega) | simp)⟩
set_option maxRecDepth 100000 in
set_option maxHeartbeats 1000000 in
theorem mean_bad (x : InsL) (ap : Option Addr) (ac : Nat) (a b : Int) (w : World) (h : x.op < 1 ∨ 22 < x.op) :
    Calls Tryd.prog 3 #[.agg #[.int .i64 x.op, .int .i64 x.dst, .bool x.ar, .int .i64 x.an, .bool x.br, .int .i64 x.bn, .int .i64 x.fn, .slice ap x.args.length ac], .int .i64 a, .int .i64 b] w fun e w' => e = .returned (.bool true) ∧ Below w.heap.size w w' := by
  have H := hidI h
  clear h
  go_enter Tryd.func3, Tryd.ntmps3
  go_wp2_with fail
  refine (One_bad _ _ _ _ _ _ _ _ _ _ _ H.out).mono ?_
  rintro e w2 ⟨rfl, hb2⟩
  have HB1 : Hid (Below w.heap.size w w2) := Below.trans (by repeat (first | with_reducible exact Below.refl _ _ | with_reducible exact HB3.out | with_reducible refine Below.drew ?_ | with_reducible refine below_drewN ?_ _ | with_reducible refine Below.setCell ?_ ?_ _ | with_reducible refine Below.alloc ?_ ?_ _ | with_reducible exact HB2.out | with_reducible exact HB1.out | with_reducible refine Below.trans ?_ (Below.mono hb3 ?_) | with_reducible refine Below.trans ?_ (Below.mono hb5 ?_) | with_reducible refine Below.trans ?_ (Below.mono hb4 ?_) | omega | (simp; omega) | simp)) (hb2.mono (by first | (simp; done) | (simp; omega)))
  have z1 : w.heap.size < w2.heap.size := by have := hb2.size; simp at this; omega
  clear hb2
  go_wp2_with fail
  refine (ins_same _ _ _ _ _ _ _ _ _ _ _ _ (fun _ => (false, 0)) _ (by omega) (.inl rfl) (.inl rfl)).mono ?_
  rintro e w3 ⟨rfl, hb3⟩
  have HB2 : Hid (Below w.heap.size w w3) := Below.trans (by repeat (first | with_reducible exact Below.refl _ _ | with_reducible exact HB3.out | with_reducible refine Below.drew ?_ | with_reducible refine below_drewN ?_ _ | with_reducible refine Below.setCell ?_ ?_ _ | with_reducible refine Below.alloc ?_ ?_ _ | with_reducible exact HB2.out | with_reducible exact HB1.out | with_reducible refine Below.trans ?_ (Below.mono hb3 ?_) | with_reducible refine Below.trans ?_ (Below.mono hb5 ?_) | with_reducible refine Below.trans ?_ (Below.mono hb4 ?_) | omega | (simp; omega) | simp)) (hb3.mono (by first | (simp; done) | (simp; omega)))
  clear hb3
  go_wp2_with fail
  go_ret
  exact ⟨rfl, HB2.out⟩
theorem mean_all (x : InsL) (v : Value) (a b : Int) (w : World) (i1 : I64 x.op) (i3 : I64 x.an) (i4 : I64 x.bn) (i5 : I64 x.fn) (hs : SlF w 2 16 ValR v x.args) (hw0 : Ways w) (hA : I64 a) (hB : I64 b) :
    Calls Tryd.prog 3 #[.agg #[.int .i64 x.op, .int .i64 x.dst, .bool x.ar, .int .i64 x.an, .bool x.br, .int .i64 x.bn, .int .i64 x.fn, v], .int .i64 a, .int .i64 b] w fun e w' => e = .returned (.bool true) ∧ Below w.heap.size w w' := by
  obtain ⟨p, c, rfl, _⟩ := hs.outX
  by_cases h1 : x.op < 1 ∨ 22 < x.op
  · exact mean_bad x p c a b w h1
  by_cases h2 : x.op ≤ 17
  · exact mean_low x p c a b w (by omega) h2 i1 i3 i4 i5 hs hw0 hA hB
  · exact mean_high x p c a b w (by omega) (by omega) i3 hs
end Go.Proofs.YtlalmbklhmpngaaDoor
