/-
  The contract of pure.own: what a function does by itself.
-/
import Derived.Test.YtlalmbklhmpngaaDoorPurH
import Derived.Test.YtlalmbklhmpngaaDoorCalI
import Derived.Deep.QuietTactic
import Derived.WalkKit
import Derived.WalkSpells
import Derived.WalkLawsBesides
namespace Go.Proofs.YtlalmbklhmpngaaDoor
open Go.RowKit Go.Shelf
attribute [local go_sem] Oper.semAt_some

/-- what some of these instructions do -/
def someB (words : Int) (l : List InsL) (i : Nat) : Bool := l.any fun x => insBit words x i
theorem someB_snoc (words : Int) (l : List InsL) (x : InsL) (i : Nat) : someB words (l ++ [x]) i = (someB words l i || insBit words x i) := by simp [someB]
theorem someB_all (f : FunL) (words : Int) (i : Nat) : someB words (allIns f) i = allB f words i := by
  unfold someB allIns allB
  rw [List.any_flatMap]
/-- between two rounds: the cell of what was found -/
def OwnI (W0 : World) (O : Nat) (words : Int) {wa : World} (pre : List (InsPos wa)) (W : World) : Prop :=
  W.heap[O]? = some (.cells #[.int .i64 (maskI (someB words (posIns pre)))] 3 (0, 0)) ∧ W0.grownBy W (some O)
theorem ownI_own {W0 : World} {O : Nat} {words : Int} {wa : World} (hO : O < W0.heap.size) : OwnFrom (β := List (InsPos wa)) W0.heap.size (OwnI W0 O words) := by
  rintro s W W' row ⟨h1, h3⟩ hg hr
  have hl := (Array.getElem?_eq_some_iff.1 h1).1
  refine ⟨(hg.block O hl (fun e => by have := (hr O e.symm).1; omega)).trans h1, ?_⟩
  refine ⟨hg.os.trans h3.os, hg.tape.trans h3.tape, hg.output.trans h3.output, Nat.le_trans h3.size hg.size, fun i hi hne => ?_⟩
  exact (hg.block i (Nat.lt_of_lt_of_le hi h3.size) (fun e => by have := (hr i e.symm).1; omega)).trans (h3.block i hi hne)

section
variable {P : Program} {md : Region.Mode} {ops : Array Oper} {Q : Exit → Act → World → Prop} {S : World → Prop} {z : Nat}
/-- what S says holds behind every operation -/
theorem wpAnyZ_firstA {i : Nat} {oi : Oper} {v : Value} (hi : ops[i]? = some oi) (hz : ops.size ≤ z) (hsel : ∀ (j : Nat) (o : Oper) cs b, ops[j]? = some o → o.op ≠ .select cs b)
    (hQ : ∀ c a w, Q (.panic c) (a.put oi.dst v) w → Q (.panic c) a w) :
    ∀ (fuel : Nat) (listed : Array Bool) (a : Act) (w : World),
      (∀ j oj, ops[j]? = some oj → j ≠ i → listed.getD j true = false → (∀ e ∈ oj.after, Region.binds md e = true → e.on ≠ i) → oi.apart ops oj = true) →
      i ∈ Region.ready md ops listed → YieldsIf P ops S oi v a → S w →
      wpAnyZ P md ops Q S z fuel (listed.setIfInBounds i true) (a.put oi.dst v) w → wpAnyZ P md ops Q S z (fuel + 1) listed a w := by
  intro fuel
  induction fuel with
  | zero =>
    intro listed a w _ hr hy hS H
    refine ⟨fun h => (by rw [h] at hr; cases hr), fun j hj => ?_⟩
    by_cases hji : j = i
    · subst hji; exact hy.wpOp hi hS ⟨fun _ => hS, H⟩
    · have := ready_mono hj hji
      rw [H.1] at this
      cases this
  | succ fuel ih =>
    intro listed a w hfree hr hy hS H
    refine ⟨fun h => (by rw [h] at hr; cases hr), fun j hj => ?_⟩
    by_cases hji : j = i
    · subst hji; exact hy.wpOp hi hS ⟨fun _ => hS, H⟩
    · have h1 := H.2 j (ready_mono hj hji)
      obtain ⟨hjun, oj, hoj, hall⟩ := mem_ready.1 hj
      have hnot : ∀ e ∈ oj.after, Region.binds md e = true → e.on ≠ i := fun e he hb heq => by
        have h1 := hall e he hb
        have h0 := (mem_ready.1 hr).1
        rw [heq] at h1
        rcases Nat.lt_or_ge i listed.size with h' | h'
        · simp [h'] at h0 h1; rw [h0] at h1; cases h1
        · simp [Array.getElem?_eq_none h'] at h1
      have hjz : j ≠ z := fun e => by have := (Array.getElem?_eq_some_iff.1 hoj).1; omega
      have h2 := wpOp_putIf hoj (hfree j oj hoj hji hjun hnot) (fun cs b => hsel i oi cs b hi) (fun cs b => hsel j oj cs b hoj) hQ hy h1
      have hfree' : ∀ k ok, ops[k]? = some ok → k ≠ i → (listed.setIfInBounds j true).getD k true = false →
          (∀ e ∈ ok.after, Region.binds md e = true → e.on ≠ i) → oi.apart ops ok = true := fun k ok hk hki hun hno => by
        refine hfree k ok hk hki ?_ hno
        by_cases hjk : j = k
        · subst hjk; exact hjun
        · rw [getD_set_ne true hjk] at hun; exact hun
      refine wpOp_mono (fun a' w' h3 => ⟨fun _ => h3.2.1 hjz, ih (listed.setIfInBounds j true) a' w' hfree' (ready_mono hr (Ne.symm hji)) h3.1 (h3.2.1 hjz) ?_⟩) h2
      rw [Array.setIfInBounds_comm _ _ hji]
      exact h3.2.2
theorem wpAnyZ_takeA {i : Nat} {oi : Oper} {v : Value} {fuel : Nat} {listed : Array Bool} {a : Act} {w : World} (hi : ops[i]? = some oi) (hw : ops.size ≤ z)
    (hs : Region.noSelect ops = true) (hf : Region.free md ops listed i = true) (hr : (Region.ready md ops listed).contains i = true)
    (hQ : ∀ c a w, Q (.panic c) (a.put oi.dst v) w → Q (.panic c) a w) (hy : YieldsIf P ops S oi v a) (hS : S w)
    (h : wpAnyZ P md ops Q S z fuel (listed.setIfInBounds i true) (a.put oi.dst v) w) : wpAnyZ P md ops Q S z (fuel + 1) listed a w :=
  wpAnyZ_firstA hi hw (Region.noSelect_spec hs) hQ fuel listed a w (Region.free_spec hi hf) (by simpa using hr) hy hS h
end
theorem grown_refl (W : World) (row : Option Nat) : W.grownBy W row := ⟨rfl, rfl, rfl, Nat.le_refl _, fun _ _ _ => rfl⟩
theorem grow_set {W W1 : World} {O : Nat} (h : W.grownBy W1 (some O)) (j : Nat) (v : Value) : W.grownBy (W1.setCell ⟨O, j, none⟩ v) (some O) :=
  ⟨h.os, h.tape, h.output, by rw [Go.Deep.nblk_setCell]; exact h.size, fun i hi hne => (Go.Deep.blk_setCell_other W1 ⟨O, j, none⟩ v i (fun e => hne (by rw [e]))).trans (h.block i hi hne)⟩
theorem grow_below {W W1 W2 : World} {O : Nat} (h : W.grownBy W1 (some O)) (hb : Below W1.heap.size W1 W2) : W.grownBy W2 (some O) :=
  ⟨hb.os.trans h.os, hb.tape.trans h.tape, hb.output.trans h.output, Nat.le_trans h.size hb.size, fun i hi hne => (hb.block i (Nat.lt_of_lt_of_le hi h.size)).trans (h.block i hi hne)⟩
/-- a round ends -/
theorem own_fin {W0 W wF : World} {O n0 Bx : Nat} {words : Int} {wa : World} {pre : List (InsPos wa)} {y : InsPos wa} {m : Nat → Bool} (hW0 : W0.grownBy W (some O)) (hOc : ∃ A T, W.heap[O]? = some (.cells A T (0, 0))) (hn : n0 ≤ O) (hnW : n0 ≤ W.heap.size) (hB : Bx ≠ O) (hBl : Bx < W.heap.size)
    (hg : W.grownBy wF (some O)) (hF : wF.heap[O]? = some (.cells #[.int .i64 (maskI m)] 3 (0, 0))) (hm : ∀ i, i < 7 → m i = someB words (posIns (pre ++ [y])) i) : KeepsOthers W wF ∧ EachK n0 Bx W wF ∧ OwnI W0 O words (pre ++ [y]) wF := by
  refine ⟨KeepsOthers.of_grownBy hg fun j o e ho => ?_, ⟨(Below.refl _ _).grown hg hnW (fun kk e => by cases e; exact hn), hg.block Bx hBl (fun e => hB (by injection e))⟩, by rw [hF, maskI_congr hm], ?_⟩
  · cases e
    obtain ⟨A, T, h⟩ := hOc
    rw [h] at ho
    cases ho
    rfl
  · exact ⟨hg.os.trans hW0.os, hg.tape.trans hW0.tape, hg.output.trans hW0.output, Nat.le_trans hW0.size hg.size, fun i hi hne => (hg.block i (Nat.lt_of_lt_of_le hi hW0.size) hne).trans (hW0.block i hi hne)⟩

set_option maxRecDepth 100000 in
set_option maxHeartbeats 8000000 in
theorem own_any (u : UniL) (gp fp : Option Addr) (gc fc k : Nat) (w : World) (hgl : u.globals.length * 48 ≤ 140737488351232) (hG : SliceAt w 3 (GloR w) gp u.globals) (hF : SliceAt w 4 (FunR w) fp u.funcs) (hu : ChkOk u) (hk : k < u.funcs.length) :
    Calls Tryd.prog 55 #[.agg #[.slice gp u.globals.length gc, .slice fp u.funcs.length fc], .int .i64 k] w fun e w' => e = .returned (.int .i64 (maskI fun i => if i = 6 then roundB (fnU u k) else allB (fnU u k) (wordsU u) i)) ∧ Below w.heap.size w w' := by
  have HF := hidI hF
  have HG := hidI hG
  have HU := hidI hu
  have hw := hidI hu.words
  obtain ⟨b2, o2, q, c, hp, e0, e1, e2, e3, _, _, _, hbl, hbs⟩ := funGet hF (Below.refl _ _) hk
  subst hp
  have hbb := lt_of_cell e0
  have HBS := hidI hbs
  have E0 := hidI e0
  have E1 := hidI e1
  have E2 := hidI e2
  have E3 := hidI e3
  have k0 : (0 : Int) ≤ (k : Int) := by omega
  have k1 : (k : Int) < u.funcs.length := by omega
  have hnf := hu.nf
  clear hF hG hu hbs e0 e1 e2 e3
  refine (callsIn_wide (n := 3)).1 ?_
  refine callsIn_of_wp_marks Tryd.func55 rfl trivial ?_ rfl
  simp only [Tryd.ntmps55, List.size_toArray, List.length_cons, List.length_nil, Nat.reduceAdd, Nat.reduceSub, Array.replicate_succ, Array.replicate_zero, List.push_toArray, List.append_toArray, List.nil_append, List.cons_append]
  gi_wp2_with (refine ⟨trivial, ?_⟩; gi_at_call 88; refine ((callsIn_wide (n := 2)).2 (words_any u _ _ _ _ _ _ hgl (glosMono HG.out (by repeat (first | with_reducible exact Below.refl _ _ | with_reducible exact HB3.out | with_reducible refine Below.drew ?_ | with_reducible refine below_drewN ?_ _ | with_reducible refine Below.setCell ?_ ?_ _ | with_reducible refine Below.alloc ?_ ?_ _ | with_reducible exact HB2.out | with_reducible exact HB1.out | with_reducible refine Below.trans ?_ (Below.mono hb3 ?_) | with_reducible refine Below.trans ?_ (Below.mono hb5 ?_) | with_reducible refine Below.trans ?_ (Below.mono hb4 ?_) | omega | (simp; omega) | simp))) hw.out)).mono ?_; rintro e w2 ⟨rfl, hb2⟩; have HB1 : Hid (Below w.heap.size w w2) := Below.trans (by repeat (first | with_reducible exact Below.refl _ _ | with_reducible exact HB3.out | with_reducible refine Below.drew ?_ | with_reducible refine below_drewN ?_ _ | with_reducible refine Below.setCell ?_ ?_ _ | with_reducible refine Below.alloc ?_ ?_ _ | with_reducible exact HB2.out | with_reducible exact HB1.out | with_reducible refine Below.trans ?_ (Below.mono hb3 ?_) | with_reducible refine Below.trans ?_ (Below.mono hb5 ?_) | with_reducible refine Below.trans ?_ (Below.mono hb4 ?_) | omega | (simp; omega) | simp)) (hb2.mono (by first | (simp; done) | (simp; omega))); have HUn := hidI (heap_below hb2 (k := w.heap.size) (by simp) (heap_here w _)); obtain ⟨hcc, hcf⟩ := blk HUn.out; have hz : w.heap.size < w2.heap.size := (by have := hb2.size; simp at this; omega); clear hb2)
  refine ⟨trivial, ?_⟩
  gi_at_call 47
  refine ((callsIn_wide (n := 2)).2 (each_any _ _)).mono ?_
  rintro e w3 ⟨rfl, rfl⟩
  gi_wp2
  obtain ⟨W0, hW0⟩ : ∃ W0, ((w2.alloc (.cells #[.int .i64 0] 3)).alloc (.cells #[.int .i64 (wordsU u)] 3)).alloc (.cells #[.pointer (some ⟨b2, o2 + k * 4, none⟩)] 95) = W0 := ⟨_, rfl⟩
  rw [hW0]
  have hBW : Below w2.heap.size w2 W0 := by rw [← hW0]; exact (((Below.refl _ _).alloc (Nat.le_refl _) _).alloc (by simp) _).alloc (by simp; omega) _
  have hsz : W0.heap.size = w2.heap.size + 1 + 1 + 1 := by rw [← hW0]; simp
  have hOb : W0.heap[w2.heap.size]? = some (.cells #[.int .i64 0] 3 (0, 0)) := by rw [← hW0]; exact heap_step (heap_step (heap_here _ _))
  have hWb : W0.heap[w2.heap.size + 1]? = some (.cells #[.int .i64 (wordsU u)] 3 (0, 0)) := by rw [← hW0]; exact heap_step (heap_at (by simp))
  have hBb : W0.heap[w2.heap.size + 1 + 1]? = some (.cells #[.pointer (some ⟨b2, o2 + k * 4, none⟩)] 95 (0, 0)) := by rw [← hW0]; exact heap_at (by simp)
  have hUb : W0.heap[w.heap.size]? = some (.cells #[.slice gp u.globals.length gc, .slice (some ⟨b2, o2, none⟩) u.funcs.length fc] 35 (0, 0)) := (hBW.block _ hz).trans HUn.out
  have hWa : Below w.heap.size w W0 := HB1.out.trans (hBW.mono (by omega))
  have HOb := hidI hOb
  have HWb := hidI hWb
  have HBb := hidI hBb
  have HUb := hidI hUb
  have HWa := hidI hWa
  clear hOb hWb hBb hUb hWa hBW hW0 hcc hcf
  refine wpIn_rangeFunc_ownF rfl (by omega) (gf := 81) (lb := #[.pointer (some ⟨w2.heap.size + 1 + 1, 0, none⟩)]) rfl trivial (enters_of Tryd.func81 (by kernel_rfl) rfl)
    (each_stops Fence.wide 2 trivial rfl (by omega) (w2.heap.size + 1 + 1) b2 (o2 + k * 4) c q u.funcs[k] w W0 HWa.out E3.out hbl HBS.out (by omega) (by omega) ((blk HBb.out).1 0)) eachK_t (eachK_b (by omega) (by omega)) (Below.refl _ _) (fun _ => rfl)
    (OwnI W0 w2.heap.size (wordsU u)) (fun _ _ _ => False) (ownI_own (by omega)) (fun _ _ _ _ _ hs _ _ => hs)
    ?start (fun y => { tmps := #[.agg #[.slice gp u.globals.length gc, .slice (some ⟨b2, o2, none⟩) u.funcs.length fc], .int .i64 k, .pointer (some ⟨w.heap.size, 0, none⟩), undef, .int .i64 0, .pointer (some ⟨w2.heap.size, 0, none⟩), .pointer (some ⟨w2.heap.size + 1, 0, none⟩), .pointer (some ⟨y.1.1.1, y.1.1.2, none⟩), .agg #[.slice gp u.globals.length gc, .slice (some ⟨b2, o2, none⟩) u.funcs.length fc], .int .i64 (wordsU u), .pointer (some ⟨w.heap.size, 1, none⟩), .slice (some ⟨b2, o2, none⟩) u.funcs.length fc, .int .i64 k, .pointer (some ⟨b2, o2 + k * 4, none⟩), .func (.func 81) #[] #[.pointer (some ⟨w2.heap.size + 1 + 1, 0, none⟩)], .pointer (some ⟨y.1.1.1, y.1.1.2, none⟩), undef, undef, undef, undef, undef, undef, undef, undef, undef, undef, undef, undef, undef, undef, undef, undef, undef, undef, undef, undef, undef, undef, undef, undef, undef, undef, undef, undef, undef, undef, undef, undef, undef, undef, undef, undef, undef, undef, undef, undef], defers := [] }) ?assign ?body ?done ?stop
  case start => exact ⟨HOb.out, ⟨rfl, rfl, rfl, Nat.le_refl _, fun _ _ _ => rfl⟩⟩
  case assign =>
    intro l y W K hK
    unfold posEnc
    gi_wp2
    exact hK
  case body =>
    rintro l pre y W ⟨hO, hg⟩ hlen
    obtain ⟨q4, c4, g0, g1, g2, g3, g4, g5, g6, g7, i1', i2', i3', i4', i5', _⟩ := y.2
    have hlb := lt_of_cell g0
    have hgs := hg.size
    have hWW : Below w.heap.size w W := HWa.out.grown hg (by omega) (fun kk e => by cases e; omega)
    have hws := hWW.size
    have hlW : y.1.1.1 < w.heap.size := hlb
    have y0 := (hWW.cell (p := ⟨y.1.1.1, y.1.1.2, none⟩) hlb).trans g0
    have y1 := (hWW.cell (p := ⟨y.1.1.1, y.1.1.2 + 1, none⟩) hlb).trans g1
    have y2 := (hWW.cell (p := ⟨y.1.1.1, y.1.1.2 + 2, none⟩) hlb).trans g2
    have y3 := (hWW.cell (p := ⟨y.1.1.1, y.1.1.2 + 3, none⟩) hlb).trans g3
    have y4 := (hWW.cell (p := ⟨y.1.1.1, y.1.1.2 + 4, none⟩) hlb).trans g4
    have y5 := (hWW.cell (p := ⟨y.1.1.1, y.1.1.2 + 5, none⟩) hlb).trans g5
    have y6 := (hWW.cell (p := ⟨y.1.1.1, y.1.1.2 + 6, none⟩) hlb).trans g6
    have y7 := (hWW.cell (p := ⟨y.1.1.1, y.1.1.2 + 7, none⟩) hlb).trans g7
    have cW := (blk ((hg.block (w2.heap.size + 1) (by omega) (by simp)).trans HWb.out)).1 0
    obtain ⟨cO, fO⟩ := blk hO
    have HO0 := hidI hO
    have HG0 := hidI hg
    have zO := (Array.getElem?_eq_some_iff.1 hO).1
    clear g0 g1 g2 g3 g4 g5 g6 g7 hO hg hWW
    rcases (show y.1.2.op = 21 ∨ y.1.2.op = 22 ∨ y.1.2.op = 18 ∨ y.1.2.op = 19 ∨ y.1.2.op = 20 ∨ (y.1.2.op ≠ 21 ∧ y.1.2.op ≠ 22 ∧ y.1.2.op ≠ 18 ∧ y.1.2.op ≠ 19 ∧ y.1.2.op ≠ 20) by omega) with hop | hop | hop | hop | hop | hop
    · obtain ⟨m1, hmm⟩ : ∃ m1 : Nat → Bool, m1 = fun i => someB (wordsU u) (posIns pre) i || bitB 0 i := ⟨_, rfl⟩
      have hm1 : ∀ i, i < 7 → i ≠ 4 → m1 i = (someB (wordsU u) (posIns pre) i || insBit (wordsU u) y.1.2 i) := fun i hi h4 => by
        rw [hmm]
        rcases (show i = 0 ∨ i = 1 ∨ i = 2 ∨ i = 3 ∨ i = 5 ∨ i = 6 by omega) with e | e | e | e | e | e <;> subst e <;> simp [bitB, insBit, hop]
      have hm4 : m1 4 = someB (wordsU u) (posIns pre) 4 := by rw [hmm]; simp [bitB]
      have q21 : (y.1.2.op == (21 : Int)) = true := by rw [hop]; rfl
      gi_wp2
      obtain ⟨W1, hW1⟩ : ∃ W1, W1 = W.setCell ⟨w2.heap.size, 0, none⟩ (.int .i64 (bits .or .i64 (maskI (someB (wordsU u) (posIns pre))) 1)) := ⟨_, rfl⟩
      rw [← hW1]
      have hg1 : W.grownBy W1 (some w2.heap.size) := by rw [hW1]; exact grow_set (grown_refl W _) _ _
      have hO1 : W1.heap[w2.heap.size]? = some (.cells #[.int .i64 (maskI m1)] 3 (0, 0)) := by
        rw [hmm, hW1, heap_set HO0.out, ← or_mask, bit0]
        rfl
      have hs1 := hg1.size
      have hB1 : Below w.heap.size W W1 := (Below.refl _ _).grown hg1 (by omega) (fun kk e => by cases e; omega)
      clear hW1 hmm
      have hx0 := (hB1.cell (p := ⟨y.1.1.1, y.1.1.2, none⟩) hlW).trans y0
      have hx1 := (hB1.cell (p := ⟨y.1.1.1, y.1.1.2 + 1, none⟩) hlW).trans y1
      have hx2 := (hB1.cell (p := ⟨y.1.1.1, y.1.1.2 + 2, none⟩) hlW).trans y2
      have hx3 := (hB1.cell (p := ⟨y.1.1.1, y.1.1.2 + 3, none⟩) hlW).trans y3
      have hx4 := (hB1.cell (p := ⟨y.1.1.1, y.1.1.2 + 4, none⟩) hlW).trans y4
      have hx5 := (hB1.cell (p := ⟨y.1.1.1, y.1.1.2 + 5, none⟩) hlW).trans y5
      have hx6 := (hB1.cell (p := ⟨y.1.1.1, y.1.1.2 + 6, none⟩) hlW).trans y6
      have hx7 := (hB1.cell (p := ⟨y.1.1.1, y.1.1.2 + 7, none⟩) hlW).trans y7
      have hxw := (World.cell?_of_block (a := ⟨w2.heap.size + 1, 0, none⟩) (hg1.block (w2.heap.size + 1) (by omega) (by simp))).trans cW
      have hlW1 : y.1.1.1 < W1.heap.size := by omega
      have hwW1 : w2.heap.size + 1 < W1.heap.size := by omega
      refine wpIn_region_round (S := (fun W' : World => W'.cell? ⟨y.1.1.1, y.1.1.2, none⟩ = some (.int .i64 y.1.2.op) ∧ W'.cell? ⟨y.1.1.1, y.1.1.2 + 1, none⟩ = some (.int .i64 y.1.2.dst) ∧ W'.cell? ⟨y.1.1.1, y.1.1.2 + 2, none⟩ = some (.bool y.1.2.ar) ∧ W'.cell? ⟨y.1.1.1, y.1.1.2 + 3, none⟩ = some (.int .i64 y.1.2.an) ∧ W'.cell? ⟨y.1.1.1, y.1.1.2 + 4, none⟩ = some (.bool y.1.2.br) ∧ W'.cell? ⟨y.1.1.1, y.1.1.2 + 5, none⟩ = some (.int .i64 y.1.2.bn) ∧ W'.cell? ⟨y.1.1.1, y.1.1.2 + 6, none⟩ = some (.int .i64 y.1.2.fn) ∧ W'.cell? ⟨y.1.1.1, y.1.1.2 + 7, none⟩ = some (.slice q4 y.1.2.args.length c4) ∧ W'.cell? ⟨w2.heap.size + 1, 0, none⟩ = some (.int .i64 (wordsU u)))) (by kernel_rfl) (fun ⟨_, _, h⟩ => h) (by kernel_rfl) 5 ?_
      have hS : (fun W' : World => W'.cell? ⟨y.1.1.1, y.1.1.2, none⟩ = some (.int .i64 y.1.2.op) ∧ W'.cell? ⟨y.1.1.1, y.1.1.2 + 1, none⟩ = some (.int .i64 y.1.2.dst) ∧ W'.cell? ⟨y.1.1.1, y.1.1.2 + 2, none⟩ = some (.bool y.1.2.ar) ∧ W'.cell? ⟨y.1.1.1, y.1.1.2 + 3, none⟩ = some (.int .i64 y.1.2.an) ∧ W'.cell? ⟨y.1.1.1, y.1.1.2 + 4, none⟩ = some (.bool y.1.2.br) ∧ W'.cell? ⟨y.1.1.1, y.1.1.2 + 5, none⟩ = some (.int .i64 y.1.2.bn) ∧ W'.cell? ⟨y.1.1.1, y.1.1.2 + 6, none⟩ = some (.int .i64 y.1.2.fn) ∧ W'.cell? ⟨y.1.1.1, y.1.1.2 + 7, none⟩ = some (.slice q4 y.1.2.args.length c4) ∧ W'.cell? ⟨w2.heap.size + 1, 0, none⟩ = some (.int .i64 (wordsU u))) W1.drew := ⟨hx0, hx1, hx2, hx3, hx4, hx5, hx6, hx7, hxw⟩
      refine wpAnyZ_takeA (i := 0) (v := (.pointer (some ⟨y.1.1.1, y.1.1.2, none⟩))) rfl (Nat.le_refl _) (by kernel_rfl) (by kernel_rfl) (by kernel_rfl) (fun _ _ _ h => h) (.inl ⟨rfl, fun W' hS' => (by obtain ⟨h1, h2, h3, h4, h5, h6, h7, h8, h9⟩ := hS'; go_simp)⟩) hS ?_
      refine wpAnyZ_takeA (i := 1) (v := (.pointer (some ⟨y.1.1.1, y.1.1.2, none⟩))) rfl (Nat.le_refl _) (by kernel_rfl) (by kernel_rfl) (by kernel_rfl) (fun _ _ _ h => h) (.inl ⟨rfl, fun W' hS' => (by obtain ⟨h1, h2, h3, h4, h5, h6, h7, h8, h9⟩ := hS'; go_simp)⟩) hS ?_
      refine wpAnyZ_takeA (i := 2) (v := (.agg #[.int .i64 y.1.2.op, .int .i64 y.1.2.dst, .bool y.1.2.ar, .int .i64 y.1.2.an, .bool y.1.2.br, .int .i64 y.1.2.bn, .int .i64 y.1.2.fn, .slice q4 y.1.2.args.length c4])) rfl (Nat.le_refl _) (by kernel_rfl) (by kernel_rfl) (by kernel_rfl) (fun _ _ _ h => h) (.inl ⟨rfl, fun W' hS' => (by obtain ⟨h1, h2, h3, h4, h5, h6, h7, h8, h9⟩ := hS'; go_simp)⟩) hS ?_
      refine wpAnyZ_takeA (i := 3) (v := (.int .i64 (wordsU u))) rfl (Nat.le_refl _) (by kernel_rfl) (by kernel_rfl) (by kernel_rfl) (fun _ _ _ h => h) (.inl ⟨rfl, fun W' hS' => (by obtain ⟨h1, h2, h3, h4, h5, h6, h7, h8, h9⟩ := hS'; go_simp)⟩) hS ?_
      refine wpAnyZ_call (i := 4) (f := 89) (args := #[.agg #[.int .i64 y.1.2.op, .int .i64 y.1.2.dst, .bool y.1.2.ar, .int .i64 y.1.2.an, .bool y.1.2.br, .int .i64 y.1.2.bn, .int .i64 y.1.2.fn, .slice q4 y.1.2.args.length c4], .int .i64 (wordsU u)]) (by kernel_rfl) rfl rfl (by go_simp) (may_any y.1.2.op y.1.2.dst y.1.2.an y.1.2.bn y.1.2.fn (wordsU u) y.1.2.ar y.1.2.br q4 y.1.2.args.length c4 W1.drew) ?_
      rintro e w4 ⟨rfl, hb4'⟩
      have hb4 : Below W1.heap.size W1 w4 := Below.trans (Below.refl _ _).drew hb4'
      have hS4 : (fun W' : World => W'.cell? ⟨y.1.1.1, y.1.1.2, none⟩ = some (.int .i64 y.1.2.op) ∧ W'.cell? ⟨y.1.1.1, y.1.1.2 + 1, none⟩ = some (.int .i64 y.1.2.dst) ∧ W'.cell? ⟨y.1.1.1, y.1.1.2 + 2, none⟩ = some (.bool y.1.2.ar) ∧ W'.cell? ⟨y.1.1.1, y.1.1.2 + 3, none⟩ = some (.int .i64 y.1.2.an) ∧ W'.cell? ⟨y.1.1.1, y.1.1.2 + 4, none⟩ = some (.bool y.1.2.br) ∧ W'.cell? ⟨y.1.1.1, y.1.1.2 + 5, none⟩ = some (.int .i64 y.1.2.bn) ∧ W'.cell? ⟨y.1.1.1, y.1.1.2 + 6, none⟩ = some (.int .i64 y.1.2.fn) ∧ W'.cell? ⟨y.1.1.1, y.1.1.2 + 7, none⟩ = some (.slice q4 y.1.2.args.length c4) ∧ W'.cell? ⟨w2.heap.size + 1, 0, none⟩ = some (.int .i64 (wordsU u))) w4 := ⟨(hb4.cell (p := ⟨y.1.1.1, y.1.1.2, none⟩) hlW1).trans hx0, (hb4.cell (p := ⟨y.1.1.1, y.1.1.2 + 1, none⟩) hlW1).trans hx1, (hb4.cell (p := ⟨y.1.1.1, y.1.1.2 + 2, none⟩) hlW1).trans hx2, (hb4.cell (p := ⟨y.1.1.1, y.1.1.2 + 3, none⟩) hlW1).trans hx3, (hb4.cell (p := ⟨y.1.1.1, y.1.1.2 + 4, none⟩) hlW1).trans hx4, (hb4.cell (p := ⟨y.1.1.1, y.1.1.2 + 5, none⟩) hlW1).trans hx5, (hb4.cell (p := ⟨y.1.1.1, y.1.1.2 + 6, none⟩) hlW1).trans hx6, (hb4.cell (p := ⟨y.1.1.1, y.1.1.2 + 7, none⟩) hlW1).trans hx7, (hb4.cell (p := ⟨w2.heap.size + 1, 0, none⟩) hwW1).trans hxw⟩
      refine ⟨_, rfl, fun _ => hS4, wpAnyZ_done (by kernel_rfl) ?_ _⟩
      have hg4 : W.grownBy w4 (some w2.heap.size) := grow_below hg1 hb4
      have hO4 := (hb4.block w2.heap.size (show _ < W1.heap.size by omega)).trans hO1
      obtain ⟨hc4, hf4⟩ := blk hO4
      have z4 := (Array.getElem?_eq_some_iff.1 hO4).1
      have HG4 := hidI hg4
      have HO4 := hidI hO4
      clear hb4 hb4' hg4 hO4 hS hS4 hx0 hx1 hx2 hx3 hx4 hx5 hx6 hx7 hxw
      show Exit.then _ _ Exit.normal _ _
      cases hmay : mayB y.1.2.op y.1.2.an y.1.2.bn y.1.2.ar y.1.2.br (wordsU u) with
      | true =>
        gi_wp2
        refine own_fin HG0.out ⟨_, _, HO0.out⟩ (by omega) (by omega) (by omega) (by omega) (grow_set HG4.out _ _) (m := fun i => m1 i || bitB 4 i) ?_ fun i hi => ?_
        · rw [heap_set HO4.out, ← or_mask, bit4]
          rfl
        · show (m1 i || bitB 4 i) = _
          rw [posIns_snoc, someB_snoc]
          by_cases e : i = 4
          · subst e
            simp [bitB, insBit, hmay]
          · rw [hm1 i hi e]
            simp [bitB, e]
      | false =>
        gi_wp2
        refine own_fin HG0.out ⟨_, _, HO0.out⟩ (by omega) (by omega) (by omega) (by omega) HG4.out HO4.out fun i hi => ?_
        rw [posIns_snoc, someB_snoc]
        by_cases e : i = 4
        · subst e
          rw [hm4]
          simp [insBit, hmay]
        · exact hm1 i hi e
    · obtain ⟨m1, hmm⟩ : ∃ m1 : Nat → Bool, m1 = fun i => someB (wordsU u) (posIns pre) i || bitB 1 i := ⟨_, rfl⟩
      have hm1 : ∀ i, i < 7 → i ≠ 4 → m1 i = (someB (wordsU u) (posIns pre) i || insBit (wordsU u) y.1.2 i) := fun i hi h4 => by
        rw [hmm]
        rcases (show i = 0 ∨ i = 1 ∨ i = 2 ∨ i = 3 ∨ i = 5 ∨ i = 6 by omega) with e | e | e | e | e | e <;> subst e <;> simp [bitB, insBit, hop]
      have hm4 : m1 4 = someB (wordsU u) (posIns pre) 4 := by rw [hmm]; simp [bitB]
      have q21 : (y.1.2.op == (21 : Int)) = false := by rw [hop]; rfl
      have q22 : (y.1.2.op == (22 : Int)) = true := by rw [hop]; rfl
      gi_wp2
      obtain ⟨W1, hW1⟩ : ∃ W1, W1 = W.setCell ⟨w2.heap.size, 0, none⟩ (.int .i64 (bits .or .i64 (maskI (someB (wordsU u) (posIns pre))) 2)) := ⟨_, rfl⟩
      rw [← hW1]
      have hg1 : W.grownBy W1 (some w2.heap.size) := by rw [hW1]; exact grow_set (grown_refl W _) _ _
      have hO1 : W1.heap[w2.heap.size]? = some (.cells #[.int .i64 (maskI m1)] 3 (0, 0)) := by
        rw [hmm, hW1, heap_set HO0.out, ← or_mask, bit1]
        rfl
      have hs1 := hg1.size
      have hB1 : Below w.heap.size W W1 := (Below.refl _ _).grown hg1 (by omega) (fun kk e => by cases e; omega)
      clear hW1 hmm
      have hx0 := (hB1.cell (p := ⟨y.1.1.1, y.1.1.2, none⟩) hlW).trans y0
      have hx1 := (hB1.cell (p := ⟨y.1.1.1, y.1.1.2 + 1, none⟩) hlW).trans y1
      have hx2 := (hB1.cell (p := ⟨y.1.1.1, y.1.1.2 + 2, none⟩) hlW).trans y2
      have hx3 := (hB1.cell (p := ⟨y.1.1.1, y.1.1.2 + 3, none⟩) hlW).trans y3
      have hx4 := (hB1.cell (p := ⟨y.1.1.1, y.1.1.2 + 4, none⟩) hlW).trans y4
      have hx5 := (hB1.cell (p := ⟨y.1.1.1, y.1.1.2 + 5, none⟩) hlW).trans y5
      have hx6 := (hB1.cell (p := ⟨y.1.1.1, y.1.1.2 + 6, none⟩) hlW).trans y6
      have hx7 := (hB1.cell (p := ⟨y.1.1.1, y.1.1.2 + 7, none⟩) hlW).trans y7
      have hxw := (World.cell?_of_block (a := ⟨w2.heap.size + 1, 0, none⟩) (hg1.block (w2.heap.size + 1) (by omega) (by simp))).trans cW
      have hlW1 : y.1.1.1 < W1.heap.size := by omega
      have hwW1 : w2.heap.size + 1 < W1.heap.size := by omega
      refine wpIn_region_round (S := (fun W' : World => W'.cell? ⟨y.1.1.1, y.1.1.2, none⟩ = some (.int .i64 y.1.2.op) ∧ W'.cell? ⟨y.1.1.1, y.1.1.2 + 1, none⟩ = some (.int .i64 y.1.2.dst) ∧ W'.cell? ⟨y.1.1.1, y.1.1.2 + 2, none⟩ = some (.bool y.1.2.ar) ∧ W'.cell? ⟨y.1.1.1, y.1.1.2 + 3, none⟩ = some (.int .i64 y.1.2.an) ∧ W'.cell? ⟨y.1.1.1, y.1.1.2 + 4, none⟩ = some (.bool y.1.2.br) ∧ W'.cell? ⟨y.1.1.1, y.1.1.2 + 5, none⟩ = some (.int .i64 y.1.2.bn) ∧ W'.cell? ⟨y.1.1.1, y.1.1.2 + 6, none⟩ = some (.int .i64 y.1.2.fn) ∧ W'.cell? ⟨y.1.1.1, y.1.1.2 + 7, none⟩ = some (.slice q4 y.1.2.args.length c4) ∧ W'.cell? ⟨w2.heap.size + 1, 0, none⟩ = some (.int .i64 (wordsU u)))) (by kernel_rfl) (fun ⟨_, _, h⟩ => h) (by kernel_rfl) 5 ?_
      have hS : (fun W' : World => W'.cell? ⟨y.1.1.1, y.1.1.2, none⟩ = some (.int .i64 y.1.2.op) ∧ W'.cell? ⟨y.1.1.1, y.1.1.2 + 1, none⟩ = some (.int .i64 y.1.2.dst) ∧ W'.cell? ⟨y.1.1.1, y.1.1.2 + 2, none⟩ = some (.bool y.1.2.ar) ∧ W'.cell? ⟨y.1.1.1, y.1.1.2 + 3, none⟩ = some (.int .i64 y.1.2.an) ∧ W'.cell? ⟨y.1.1.1, y.1.1.2 + 4, none⟩ = some (.bool y.1.2.br) ∧ W'.cell? ⟨y.1.1.1, y.1.1.2 + 5, none⟩ = some (.int .i64 y.1.2.bn) ∧ W'.cell? ⟨y.1.1.1, y.1.1.2 + 6, none⟩ = some (.int .i64 y.1.2.fn) ∧ W'.cell? ⟨y.1.1.1, y.1.1.2 + 7, none⟩ = some (.slice q4 y.1.2.args.length c4) ∧ W'.cell? ⟨w2.heap.size + 1, 0, none⟩ = some (.int .i64 (wordsU u))) W1.drew := ⟨hx0, hx1, hx2, hx3, hx4, hx5, hx6, hx7, hxw⟩
      refine wpAnyZ_takeA (i := 0) (v := (.pointer (some ⟨y.1.1.1, y.1.1.2, none⟩))) rfl (Nat.le_refl _) (by kernel_rfl) (by kernel_rfl) (by kernel_rfl) (fun _ _ _ h => h) (.inl ⟨rfl, fun W' hS' => (by obtain ⟨h1, h2, h3, h4, h5, h6, h7, h8, h9⟩ := hS'; go_simp)⟩) hS ?_
      refine wpAnyZ_takeA (i := 1) (v := (.pointer (some ⟨y.1.1.1, y.1.1.2, none⟩))) rfl (Nat.le_refl _) (by kernel_rfl) (by kernel_rfl) (by kernel_rfl) (fun _ _ _ h => h) (.inl ⟨rfl, fun W' hS' => (by obtain ⟨h1, h2, h3, h4, h5, h6, h7, h8, h9⟩ := hS'; go_simp)⟩) hS ?_
      refine wpAnyZ_takeA (i := 2) (v := (.agg #[.int .i64 y.1.2.op, .int .i64 y.1.2.dst, .bool y.1.2.ar, .int .i64 y.1.2.an, .bool y.1.2.br, .int .i64 y.1.2.bn, .int .i64 y.1.2.fn, .slice q4 y.1.2.args.length c4])) rfl (Nat.le_refl _) (by kernel_rfl) (by kernel_rfl) (by kernel_rfl) (fun _ _ _ h => h) (.inl ⟨rfl, fun W' hS' => (by obtain ⟨h1, h2, h3, h4, h5, h6, h7, h8, h9⟩ := hS'; go_simp)⟩) hS ?_
      refine wpAnyZ_takeA (i := 3) (v := (.int .i64 (wordsU u))) rfl (Nat.le_refl _) (by kernel_rfl) (by kernel_rfl) (by kernel_rfl) (fun _ _ _ h => h) (.inl ⟨rfl, fun W' hS' => (by obtain ⟨h1, h2, h3, h4, h5, h6, h7, h8, h9⟩ := hS'; go_simp)⟩) hS ?_
      refine wpAnyZ_call (i := 4) (f := 89) (args := #[.agg #[.int .i64 y.1.2.op, .int .i64 y.1.2.dst, .bool y.1.2.ar, .int .i64 y.1.2.an, .bool y.1.2.br, .int .i64 y.1.2.bn, .int .i64 y.1.2.fn, .slice q4 y.1.2.args.length c4], .int .i64 (wordsU u)]) (by kernel_rfl) rfl rfl (by go_simp) (may_any y.1.2.op y.1.2.dst y.1.2.an y.1.2.bn y.1.2.fn (wordsU u) y.1.2.ar y.1.2.br q4 y.1.2.args.length c4 W1.drew) ?_
      rintro e w4 ⟨rfl, hb4'⟩
      have hb4 : Below W1.heap.size W1 w4 := Below.trans (Below.refl _ _).drew hb4'
      have hS4 : (fun W' : World => W'.cell? ⟨y.1.1.1, y.1.1.2, none⟩ = some (.int .i64 y.1.2.op) ∧ W'.cell? ⟨y.1.1.1, y.1.1.2 + 1, none⟩ = some (.int .i64 y.1.2.dst) ∧ W'.cell? ⟨y.1.1.1, y.1.1.2 + 2, none⟩ = some (.bool y.1.2.ar) ∧ W'.cell? ⟨y.1.1.1, y.1.1.2 + 3, none⟩ = some (.int .i64 y.1.2.an) ∧ W'.cell? ⟨y.1.1.1, y.1.1.2 + 4, none⟩ = some (.bool y.1.2.br) ∧ W'.cell? ⟨y.1.1.1, y.1.1.2 + 5, none⟩ = some (.int .i64 y.1.2.bn) ∧ W'.cell? ⟨y.1.1.1, y.1.1.2 + 6, none⟩ = some (.int .i64 y.1.2.fn) ∧ W'.cell? ⟨y.1.1.1, y.1.1.2 + 7, none⟩ = some (.slice q4 y.1.2.args.length c4) ∧ W'.cell? ⟨w2.heap.size + 1, 0, none⟩ = some (.int .i64 (wordsU u))) w4 := ⟨(hb4.cell (p := ⟨y.1.1.1, y.1.1.2, none⟩) hlW1).trans hx0, (hb4.cell (p := ⟨y.1.1.1, y.1.1.2 + 1, none⟩) hlW1).trans hx1, (hb4.cell (p := ⟨y.1.1.1, y.1.1.2 + 2, none⟩) hlW1).trans hx2, (hb4.cell (p := ⟨y.1.1.1, y.1.1.2 + 3, none⟩) hlW1).trans hx3, (hb4.cell (p := ⟨y.1.1.1, y.1.1.2 + 4, none⟩) hlW1).trans hx4, (hb4.cell (p := ⟨y.1.1.1, y.1.1.2 + 5, none⟩) hlW1).trans hx5, (hb4.cell (p := ⟨y.1.1.1, y.1.1.2 + 6, none⟩) hlW1).trans hx6, (hb4.cell (p := ⟨y.1.1.1, y.1.1.2 + 7, none⟩) hlW1).trans hx7, (hb4.cell (p := ⟨w2.heap.size + 1, 0, none⟩) hwW1).trans hxw⟩
      refine ⟨_, rfl, fun _ => hS4, wpAnyZ_done (by kernel_rfl) ?_ _⟩
      have hg4 : W.grownBy w4 (some w2.heap.size) := grow_below hg1 hb4
      have hO4 := (hb4.block w2.heap.size (show _ < W1.heap.size by omega)).trans hO1
      obtain ⟨hc4, hf4⟩ := blk hO4
      have z4 := (Array.getElem?_eq_some_iff.1 hO4).1
      have HG4 := hidI hg4
      have HO4 := hidI hO4
      clear hb4 hb4' hg4 hO4 hS hS4 hx0 hx1 hx2 hx3 hx4 hx5 hx6 hx7 hxw
      show Exit.then _ _ Exit.normal _ _
      cases hmay : mayB y.1.2.op y.1.2.an y.1.2.bn y.1.2.ar y.1.2.br (wordsU u) with
      | true =>
        gi_wp2
        refine own_fin HG0.out ⟨_, _, HO0.out⟩ (by omega) (by omega) (by omega) (by omega) (grow_set HG4.out _ _) (m := fun i => m1 i || bitB 4 i) ?_ fun i hi => ?_
        · rw [heap_set HO4.out, ← or_mask, bit4]
          rfl
        · show (m1 i || bitB 4 i) = _
          rw [posIns_snoc, someB_snoc]
          by_cases e : i = 4
          · subst e
            simp [bitB, insBit, hmay]
          · rw [hm1 i hi e]
            simp [bitB, e]
      | false =>
        gi_wp2
        refine own_fin HG0.out ⟨_, _, HO0.out⟩ (by omega) (by omega) (by omega) (by omega) HG4.out HO4.out fun i hi => ?_
        rw [posIns_snoc, someB_snoc]
        by_cases e : i = 4
        · subst e
          rw [hm4]
          simp [insBit, hmay]
        · exact hm1 i hi e
    · obtain ⟨m1, hmm⟩ : ∃ m1 : Nat → Bool, m1 = fun i => someB (wordsU u) (posIns pre) i || bitB 2 i := ⟨_, rfl⟩
      have hm1 : ∀ i, i < 7 → i ≠ 4 → m1 i = (someB (wordsU u) (posIns pre) i || insBit (wordsU u) y.1.2 i) := fun i hi h4 => by
        rw [hmm]
        rcases (show i = 0 ∨ i = 1 ∨ i = 2 ∨ i = 3 ∨ i = 5 ∨ i = 6 by omega) with e | e | e | e | e | e <;> subst e <;> simp [bitB, insBit, hop]
      have hm4 : m1 4 = someB (wordsU u) (posIns pre) 4 := by rw [hmm]; simp [bitB]
      have q21 : (y.1.2.op == (21 : Int)) = false := by rw [hop]; rfl
      have q22 : (y.1.2.op == (22 : Int)) = false := by rw [hop]; rfl
      have q18 : (y.1.2.op == (18 : Int)) = true := by rw [hop]; rfl
      gi_wp2
      obtain ⟨W1, hW1⟩ : ∃ W1, W1 = W.setCell ⟨w2.heap.size, 0, none⟩ (.int .i64 (bits .or .i64 (maskI (someB (wordsU u) (posIns pre))) 4)) := ⟨_, rfl⟩
      rw [← hW1]
      have hg1 : W.grownBy W1 (some w2.heap.size) := by rw [hW1]; exact grow_set (grown_refl W _) _ _
      have hO1 : W1.heap[w2.heap.size]? = some (.cells #[.int .i64 (maskI m1)] 3 (0, 0)) := by
        rw [hmm, hW1, heap_set HO0.out, ← or_mask, bit2]
        rfl
      have hs1 := hg1.size
      have hB1 : Below w.heap.size W W1 := (Below.refl _ _).grown hg1 (by omega) (fun kk e => by cases e; omega)
      clear hW1 hmm
      have hx0 := (hB1.cell (p := ⟨y.1.1.1, y.1.1.2, none⟩) hlW).trans y0
      have hx1 := (hB1.cell (p := ⟨y.1.1.1, y.1.1.2 + 1, none⟩) hlW).trans y1
      have hx2 := (hB1.cell (p := ⟨y.1.1.1, y.1.1.2 + 2, none⟩) hlW).trans y2
      have hx3 := (hB1.cell (p := ⟨y.1.1.1, y.1.1.2 + 3, none⟩) hlW).trans y3
      have hx4 := (hB1.cell (p := ⟨y.1.1.1, y.1.1.2 + 4, none⟩) hlW).trans y4
      have hx5 := (hB1.cell (p := ⟨y.1.1.1, y.1.1.2 + 5, none⟩) hlW).trans y5
      have hx6 := (hB1.cell (p := ⟨y.1.1.1, y.1.1.2 + 6, none⟩) hlW).trans y6
      have hx7 := (hB1.cell (p := ⟨y.1.1.1, y.1.1.2 + 7, none⟩) hlW).trans y7
      have hxw := (World.cell?_of_block (a := ⟨w2.heap.size + 1, 0, none⟩) (hg1.block (w2.heap.size + 1) (by omega) (by simp))).trans cW
      have hlW1 : y.1.1.1 < W1.heap.size := by omega
      have hwW1 : w2.heap.size + 1 < W1.heap.size := by omega
      refine wpIn_region_round (S := (fun W' : World => W'.cell? ⟨y.1.1.1, y.1.1.2, none⟩ = some (.int .i64 y.1.2.op) ∧ W'.cell? ⟨y.1.1.1, y.1.1.2 + 1, none⟩ = some (.int .i64 y.1.2.dst) ∧ W'.cell? ⟨y.1.1.1, y.1.1.2 + 2, none⟩ = some (.bool y.1.2.ar) ∧ W'.cell? ⟨y.1.1.1, y.1.1.2 + 3, none⟩ = some (.int .i64 y.1.2.an) ∧ W'.cell? ⟨y.1.1.1, y.1.1.2 + 4, none⟩ = some (.bool y.1.2.br) ∧ W'.cell? ⟨y.1.1.1, y.1.1.2 + 5, none⟩ = some (.int .i64 y.1.2.bn) ∧ W'.cell? ⟨y.1.1.1, y.1.1.2 + 6, none⟩ = some (.int .i64 y.1.2.fn) ∧ W'.cell? ⟨y.1.1.1, y.1.1.2 + 7, none⟩ = some (.slice q4 y.1.2.args.length c4) ∧ W'.cell? ⟨w2.heap.size + 1, 0, none⟩ = some (.int .i64 (wordsU u)))) (by kernel_rfl) (fun ⟨_, _, h⟩ => h) (by kernel_rfl) 5 ?_
      have hS : (fun W' : World => W'.cell? ⟨y.1.1.1, y.1.1.2, none⟩ = some (.int .i64 y.1.2.op) ∧ W'.cell? ⟨y.1.1.1, y.1.1.2 + 1, none⟩ = some (.int .i64 y.1.2.dst) ∧ W'.cell? ⟨y.1.1.1, y.1.1.2 + 2, none⟩ = some (.bool y.1.2.ar) ∧ W'.cell? ⟨y.1.1.1, y.1.1.2 + 3, none⟩ = some (.int .i64 y.1.2.an) ∧ W'.cell? ⟨y.1.1.1, y.1.1.2 + 4, none⟩ = some (.bool y.1.2.br) ∧ W'.cell? ⟨y.1.1.1, y.1.1.2 + 5, none⟩ = some (.int .i64 y.1.2.bn) ∧ W'.cell? ⟨y.1.1.1, y.1.1.2 + 6, none⟩ = some (.int .i64 y.1.2.fn) ∧ W'.cell? ⟨y.1.1.1, y.1.1.2 + 7, none⟩ = some (.slice q4 y.1.2.args.length c4) ∧ W'.cell? ⟨w2.heap.size + 1, 0, none⟩ = some (.int .i64 (wordsU u))) W1.drew := ⟨hx0, hx1, hx2, hx3, hx4, hx5, hx6, hx7, hxw⟩
      refine wpAnyZ_takeA (i := 0) (v := (.pointer (some ⟨y.1.1.1, y.1.1.2, none⟩))) rfl (Nat.le_refl _) (by kernel_rfl) (by kernel_rfl) (by kernel_rfl) (fun _ _ _ h => h) (.inl ⟨rfl, fun W' hS' => (by obtain ⟨h1, h2, h3, h4, h5, h6, h7, h8, h9⟩ := hS'; go_simp)⟩) hS ?_
      refine wpAnyZ_takeA (i := 1) (v := (.pointer (some ⟨y.1.1.1, y.1.1.2, none⟩))) rfl (Nat.le_refl _) (by kernel_rfl) (by kernel_rfl) (by kernel_rfl) (fun _ _ _ h => h) (.inl ⟨rfl, fun W' hS' => (by obtain ⟨h1, h2, h3, h4, h5, h6, h7, h8, h9⟩ := hS'; go_simp)⟩) hS ?_
      refine wpAnyZ_takeA (i := 2) (v := (.agg #[.int .i64 y.1.2.op, .int .i64 y.1.2.dst, .bool y.1.2.ar, .int .i64 y.1.2.an, .bool y.1.2.br, .int .i64 y.1.2.bn, .int .i64 y.1.2.fn, .slice q4 y.1.2.args.length c4])) rfl (Nat.le_refl _) (by kernel_rfl) (by kernel_rfl) (by kernel_rfl) (fun _ _ _ h => h) (.inl ⟨rfl, fun W' hS' => (by obtain ⟨h1, h2, h3, h4, h5, h6, h7, h8, h9⟩ := hS'; go_simp)⟩) hS ?_
      refine wpAnyZ_takeA (i := 3) (v := (.int .i64 (wordsU u))) rfl (Nat.le_refl _) (by kernel_rfl) (by kernel_rfl) (by kernel_rfl) (fun _ _ _ h => h) (.inl ⟨rfl, fun W' hS' => (by obtain ⟨h1, h2, h3, h4, h5, h6, h7, h8, h9⟩ := hS'; go_simp)⟩) hS ?_
      refine wpAnyZ_call (i := 4) (f := 89) (args := #[.agg #[.int .i64 y.1.2.op, .int .i64 y.1.2.dst, .bool y.1.2.ar, .int .i64 y.1.2.an, .bool y.1.2.br, .int .i64 y.1.2.bn, .int .i64 y.1.2.fn, .slice q4 y.1.2.args.length c4], .int .i64 (wordsU u)]) (by kernel_rfl) rfl rfl (by go_simp) (may_any y.1.2.op y.1.2.dst y.1.2.an y.1.2.bn y.1.2.fn (wordsU u) y.1.2.ar y.1.2.br q4 y.1.2.args.length c4 W1.drew) ?_
      rintro e w4 ⟨rfl, hb4'⟩
      have hb4 : Below W1.heap.size W1 w4 := Below.trans (Below.refl _ _).drew hb4'
      have hS4 : (fun W' : World => W'.cell? ⟨y.1.1.1, y.1.1.2, none⟩ = some (.int .i64 y.1.2.op) ∧ W'.cell? ⟨y.1.1.1, y.1.1.2 + 1, none⟩ = some (.int .i64 y.1.2.dst) ∧ W'.cell? ⟨y.1.1.1, y.1.1.2 + 2, none⟩ = some (.bool y.1.2.ar) ∧ W'.cell? ⟨y.1.1.1, y.1.1.2 + 3, none⟩ = some (.int .i64 y.1.2.an) ∧ W'.cell? ⟨y.1.1.1, y.1.1.2 + 4, none⟩ = some (.bool y.1.2.br) ∧ W'.cell? ⟨y.1.1.1, y.1.1.2 + 5, none⟩ = some (.int .i64 y.1.2.bn) ∧ W'.cell? ⟨y.1.1.1, y.1.1.2 + 6, none⟩ = some (.int .i64 y.1.2.fn) ∧ W'.cell? ⟨y.1.1.1, y.1.1.2 + 7, none⟩ = some (.slice q4 y.1.2.args.length c4) ∧ W'.cell? ⟨w2.heap.size + 1, 0, none⟩ = some (.int .i64 (wordsU u))) w4 := ⟨(hb4.cell (p := ⟨y.1.1.1, y.1.1.2, none⟩) hlW1).trans hx0, (hb4.cell (p := ⟨y.1.1.1, y.1.1.2 + 1, none⟩) hlW1).trans hx1, (hb4.cell (p := ⟨y.1.1.1, y.1.1.2 + 2, none⟩) hlW1).trans hx2, (hb4.cell (p := ⟨y.1.1.1, y.1.1.2 + 3, none⟩) hlW1).trans hx3, (hb4.cell (p := ⟨y.1.1.1, y.1.1.2 + 4, none⟩) hlW1).trans hx4, (hb4.cell (p := ⟨y.1.1.1, y.1.1.2 + 5, none⟩) hlW1).trans hx5, (hb4.cell (p := ⟨y.1.1.1, y.1.1.2 + 6, none⟩) hlW1).trans hx6, (hb4.cell (p := ⟨y.1.1.1, y.1.1.2 + 7, none⟩) hlW1).trans hx7, (hb4.cell (p := ⟨w2.heap.size + 1, 0, none⟩) hwW1).trans hxw⟩
      refine ⟨_, rfl, fun _ => hS4, wpAnyZ_done (by kernel_rfl) ?_ _⟩
      have hg4 : W.grownBy w4 (some w2.heap.size) := grow_below hg1 hb4
      have hO4 := (hb4.block w2.heap.size (show _ < W1.heap.size by omega)).trans hO1
      obtain ⟨hc4, hf4⟩ := blk hO4
      have z4 := (Array.getElem?_eq_some_iff.1 hO4).1
      have HG4 := hidI hg4
      have HO4 := hidI hO4
      clear hb4 hb4' hg4 hO4 hS hS4 hx0 hx1 hx2 hx3 hx4 hx5 hx6 hx7 hxw
      show Exit.then _ _ Exit.normal _ _
      cases hmay : mayB y.1.2.op y.1.2.an y.1.2.bn y.1.2.ar y.1.2.br (wordsU u) with
      | true =>
        gi_wp2
        refine own_fin HG0.out ⟨_, _, HO0.out⟩ (by omega) (by omega) (by omega) (by omega) (grow_set HG4.out _ _) (m := fun i => m1 i || bitB 4 i) ?_ fun i hi => ?_
        · rw [heap_set HO4.out, ← or_mask, bit4]
          rfl
        · show (m1 i || bitB 4 i) = _
          rw [posIns_snoc, someB_snoc]
          by_cases e : i = 4
          · subst e
            simp [bitB, insBit, hmay]
          · rw [hm1 i hi e]
            simp [bitB, e]
      | false =>
        gi_wp2
        refine own_fin HG0.out ⟨_, _, HO0.out⟩ (by omega) (by omega) (by omega) (by omega) HG4.out HO4.out fun i hi => ?_
        rw [posIns_snoc, someB_snoc]
        by_cases e : i = 4
        · subst e
          rw [hm4]
          simp [insBit, hmay]
        · exact hm1 i hi e
    · obtain ⟨m1, hmm⟩ : ∃ m1 : Nat → Bool, m1 = fun i => someB (wordsU u) (posIns pre) i || bitB 3 i := ⟨_, rfl⟩
      have hm1 : ∀ i, i < 7 → i ≠ 4 → m1 i = (someB (wordsU u) (posIns pre) i || insBit (wordsU u) y.1.2 i) := fun i hi h4 => by
        rw [hmm]
        rcases (show i = 0 ∨ i = 1 ∨ i = 2 ∨ i = 3 ∨ i = 5 ∨ i = 6 by omega) with e | e | e | e | e | e <;> subst e <;> simp [bitB, insBit, hop]
      have hm4 : m1 4 = someB (wordsU u) (posIns pre) 4 := by rw [hmm]; simp [bitB]
      have q21 : (y.1.2.op == (21 : Int)) = false := by rw [hop]; rfl
      have q22 : (y.1.2.op == (22 : Int)) = false := by rw [hop]; rfl
      have q18 : (y.1.2.op == (18 : Int)) = false := by rw [hop]; rfl
      have q19 : (y.1.2.op == (19 : Int)) = true := by rw [hop]; rfl
      gi_wp2
      obtain ⟨W1, hW1⟩ : ∃ W1, W1 = W.setCell ⟨w2.heap.size, 0, none⟩ (.int .i64 (bits .or .i64 (maskI (someB (wordsU u) (posIns pre))) 8)) := ⟨_, rfl⟩
      rw [← hW1]
      have hg1 : W.grownBy W1 (some w2.heap.size) := by rw [hW1]; exact grow_set (grown_refl W _) _ _
      have hO1 : W1.heap[w2.heap.size]? = some (.cells #[.int .i64 (maskI m1)] 3 (0, 0)) := by
        rw [hmm, hW1, heap_set HO0.out, ← or_mask, bit3]
        rfl
      have hs1 := hg1.size
      have hB1 : Below w.heap.size W W1 := (Below.refl _ _).grown hg1 (by omega) (fun kk e => by cases e; omega)
      clear hW1 hmm
      have hx0 := (hB1.cell (p := ⟨y.1.1.1, y.1.1.2, none⟩) hlW).trans y0
      have hx1 := (hB1.cell (p := ⟨y.1.1.1, y.1.1.2 + 1, none⟩) hlW).trans y1
      have hx2 := (hB1.cell (p := ⟨y.1.1.1, y.1.1.2 + 2, none⟩) hlW).trans y2
      have hx3 := (hB1.cell (p := ⟨y.1.1.1, y.1.1.2 + 3, none⟩) hlW).trans y3
      have hx4 := (hB1.cell (p := ⟨y.1.1.1, y.1.1.2 + 4, none⟩) hlW).trans y4
      have hx5 := (hB1.cell (p := ⟨y.1.1.1, y.1.1.2 + 5, none⟩) hlW).trans y5
      have hx6 := (hB1.cell (p := ⟨y.1.1.1, y.1.1.2 + 6, none⟩) hlW).trans y6
      have hx7 := (hB1.cell (p := ⟨y.1.1.1, y.1.1.2 + 7, none⟩) hlW).trans y7
      have hxw := (World.cell?_of_block (a := ⟨w2.heap.size + 1, 0, none⟩) (hg1.block (w2.heap.size + 1) (by omega) (by simp))).trans cW
      have hlW1 : y.1.1.1 < W1.heap.size := by omega
      have hwW1 : w2.heap.size + 1 < W1.heap.size := by omega
      refine wpIn_region_round (S := (fun W' : World => W'.cell? ⟨y.1.1.1, y.1.1.2, none⟩ = some (.int .i64 y.1.2.op) ∧ W'.cell? ⟨y.1.1.1, y.1.1.2 + 1, none⟩ = some (.int .i64 y.1.2.dst) ∧ W'.cell? ⟨y.1.1.1, y.1.1.2 + 2, none⟩ = some (.bool y.1.2.ar) ∧ W'.cell? ⟨y.1.1.1, y.1.1.2 + 3, none⟩ = some (.int .i64 y.1.2.an) ∧ W'.cell? ⟨y.1.1.1, y.1.1.2 + 4, none⟩ = some (.bool y.1.2.br) ∧ W'.cell? ⟨y.1.1.1, y.1.1.2 + 5, none⟩ = some (.int .i64 y.1.2.bn) ∧ W'.cell? ⟨y.1.1.1, y.1.1.2 + 6, none⟩ = some (.int .i64 y.1.2.fn) ∧ W'.cell? ⟨y.1.1.1, y.1.1.2 + 7, none⟩ = some (.slice q4 y.1.2.args.length c4) ∧ W'.cell? ⟨w2.heap.size + 1, 0, none⟩ = some (.int .i64 (wordsU u)))) (by kernel_rfl) (fun ⟨_, _, h⟩ => h) (by kernel_rfl) 5 ?_
      have hS : (fun W' : World => W'.cell? ⟨y.1.1.1, y.1.1.2, none⟩ = some (.int .i64 y.1.2.op) ∧ W'.cell? ⟨y.1.1.1, y.1.1.2 + 1, none⟩ = some (.int .i64 y.1.2.dst) ∧ W'.cell? ⟨y.1.1.1, y.1.1.2 + 2, none⟩ = some (.bool y.1.2.ar) ∧ W'.cell? ⟨y.1.1.1, y.1.1.2 + 3, none⟩ = some (.int .i64 y.1.2.an) ∧ W'.cell? ⟨y.1.1.1, y.1.1.2 + 4, none⟩ = some (.bool y.1.2.br) ∧ W'.cell? ⟨y.1.1.1, y.1.1.2 + 5, none⟩ = some (.int .i64 y.1.2.bn) ∧ W'.cell? ⟨y.1.1.1, y.1.1.2 + 6, none⟩ = some (.int .i64 y.1.2.fn) ∧ W'.cell? ⟨y.1.1.1, y.1.1.2 + 7, none⟩ = some (.slice q4 y.1.2.args.length c4) ∧ W'.cell? ⟨w2.heap.size + 1, 0, none⟩ = some (.int .i64 (wordsU u))) W1.drew := ⟨hx0, hx1, hx2, hx3, hx4, hx5, hx6, hx7, hxw⟩
      refine wpAnyZ_takeA (i := 0) (v := (.pointer (some ⟨y.1.1.1, y.1.1.2, none⟩))) rfl (Nat.le_refl _) (by kernel_rfl) (by kernel_rfl) (by kernel_rfl) (fun _ _ _ h => h) (.inl ⟨rfl, fun W' hS' => (by obtain ⟨h1, h2, h3, h4, h5, h6, h7, h8, h9⟩ := hS'; go_simp)⟩) hS ?_
      refine wpAnyZ_takeA (i := 1) (v := (.pointer (some ⟨y.1.1.1, y.1.1.2, none⟩))) rfl (Nat.le_refl _) (by kernel_rfl) (by kernel_rfl) (by kernel_rfl) (fun _ _ _ h => h) (.inl ⟨rfl, fun W' hS' => (by obtain ⟨h1, h2, h3, h4, h5, h6, h7, h8, h9⟩ := hS'; go_simp)⟩) hS ?_
      refine wpAnyZ_takeA (i := 2) (v := (.agg #[.int .i64 y.1.2.op, .int .i64 y.1.2.dst, .bool y.1.2.ar, .int .i64 y.1.2.an, .bool y.1.2.br, .int .i64 y.1.2.bn, .int .i64 y.1.2.fn, .slice q4 y.1.2.args.length c4])) rfl (Nat.le_refl _) (by kernel_rfl) (by kernel_rfl) (by kernel_rfl) (fun _ _ _ h => h) (.inl ⟨rfl, fun W' hS' => (by obtain ⟨h1, h2, h3, h4, h5, h6, h7, h8, h9⟩ := hS'; go_simp)⟩) hS ?_
      refine wpAnyZ_takeA (i := 3) (v := (.int .i64 (wordsU u))) rfl (Nat.le_refl _) (by kernel_rfl) (by kernel_rfl) (by kernel_rfl) (fun _ _ _ h => h) (.inl ⟨rfl, fun W' hS' => (by obtain ⟨h1, h2, h3, h4, h5, h6, h7, h8, h9⟩ := hS'; go_simp)⟩) hS ?_
      refine wpAnyZ_call (i := 4) (f := 89) (args := #[.agg #[.int .i64 y.1.2.op, .int .i64 y.1.2.dst, .bool y.1.2.ar, .int .i64 y.1.2.an, .bool y.1.2.br, .int .i64 y.1.2.bn, .int .i64 y.1.2.fn, .slice q4 y.1.2.args.length c4], .int .i64 (wordsU u)]) (by kernel_rfl) rfl rfl (by go_simp) (may_any y.1.2.op y.1.2.dst y.1.2.an y.1.2.bn y.1.2.fn (wordsU u) y.1.2.ar y.1.2.br q4 y.1.2.args.length c4 W1.drew) ?_
      rintro e w4 ⟨rfl, hb4'⟩
      have hb4 : Below W1.heap.size W1 w4 := Below.trans (Below.refl _ _).drew hb4'
      have hS4 : (fun W' : World => W'.cell? ⟨y.1.1.1, y.1.1.2, none⟩ = some (.int .i64 y.1.2.op) ∧ W'.cell? ⟨y.1.1.1, y.1.1.2 + 1, none⟩ = some (.int .i64 y.1.2.dst) ∧ W'.cell? ⟨y.1.1.1, y.1.1.2 + 2, none⟩ = some (.bool y.1.2.ar) ∧ W'.cell? ⟨y.1.1.1, y.1.1.2 + 3, none⟩ = some (.int .i64 y.1.2.an) ∧ W'.cell? ⟨y.1.1.1, y.1.1.2 + 4, none⟩ = some (.bool y.1.2.br) ∧ W'.cell? ⟨y.1.1.1, y.1.1.2 + 5, none⟩ = some (.int .i64 y.1.2.bn) ∧ W'.cell? ⟨y.1.1.1, y.1.1.2 + 6, none⟩ = some (.int .i64 y.1.2.fn) ∧ W'.cell? ⟨y.1.1.1, y.1.1.2 + 7, none⟩ = some (.slice q4 y.1.2.args.length c4) ∧ W'.cell? ⟨w2.heap.size + 1, 0, none⟩ = some (.int .i64 (wordsU u))) w4 := ⟨(hb4.cell (p := ⟨y.1.1.1, y.1.1.2, none⟩) hlW1).trans hx0, (hb4.cell (p := ⟨y.1.1.1, y.1.1.2 + 1, none⟩) hlW1).trans hx1, (hb4.cell (p := ⟨y.1.1.1, y.1.1.2 + 2, none⟩) hlW1).trans hx2, (hb4.cell (p := ⟨y.1.1.1, y.1.1.2 + 3, none⟩) hlW1).trans hx3, (hb4.cell (p := ⟨y.1.1.1, y.1.1.2 + 4, none⟩) hlW1).trans hx4, (hb4.cell (p := ⟨y.1.1.1, y.1.1.2 + 5, none⟩) hlW1).trans hx5, (hb4.cell (p := ⟨y.1.1.1, y.1.1.2 + 6, none⟩) hlW1).trans hx6, (hb4.cell (p := ⟨y.1.1.1, y.1.1.2 + 7, none⟩) hlW1).trans hx7, (hb4.cell (p := ⟨w2.heap.size + 1, 0, none⟩) hwW1).trans hxw⟩
      refine ⟨_, rfl, fun _ => hS4, wpAnyZ_done (by kernel_rfl) ?_ _⟩
      have hg4 : W.grownBy w4 (some w2.heap.size) := grow_below hg1 hb4
      have hO4 := (hb4.block w2.heap.size (show _ < W1.heap.size by omega)).trans hO1
      obtain ⟨hc4, hf4⟩ := blk hO4
      have z4 := (Array.getElem?_eq_some_iff.1 hO4).1
      have HG4 := hidI hg4
      have HO4 := hidI hO4
      clear hb4 hb4' hg4 hO4 hS hS4 hx0 hx1 hx2 hx3 hx4 hx5 hx6 hx7 hxw
      show Exit.then _ _ Exit.normal _ _
      cases hmay : mayB y.1.2.op y.1.2.an y.1.2.bn y.1.2.ar y.1.2.br (wordsU u) with
      | true =>
        gi_wp2
        refine own_fin HG0.out ⟨_, _, HO0.out⟩ (by omega) (by omega) (by omega) (by omega) (grow_set HG4.out _ _) (m := fun i => m1 i || bitB 4 i) ?_ fun i hi => ?_
        · rw [heap_set HO4.out, ← or_mask, bit4]
          rfl
        · show (m1 i || bitB 4 i) = _
          rw [posIns_snoc, someB_snoc]
          by_cases e : i = 4
          · subst e
            simp [bitB, insBit, hmay]
          · rw [hm1 i hi e]
            simp [bitB, e]
      | false =>
        gi_wp2
        refine own_fin HG0.out ⟨_, _, HO0.out⟩ (by omega) (by omega) (by omega) (by omega) HG4.out HO4.out fun i hi => ?_
        rw [posIns_snoc, someB_snoc]
        by_cases e : i = 4
        · subst e
          rw [hm4]
          simp [insBit, hmay]
        · exact hm1 i hi e
    · obtain ⟨m1, hmm⟩ : ∃ m1 : Nat → Bool, m1 = fun i => someB (wordsU u) (posIns pre) i || bitB 5 i := ⟨_, rfl⟩
      have hm1 : ∀ i, i < 7 → i ≠ 4 → m1 i = (someB (wordsU u) (posIns pre) i || insBit (wordsU u) y.1.2 i) := fun i hi h4 => by
        rw [hmm]
        rcases (show i = 0 ∨ i = 1 ∨ i = 2 ∨ i = 3 ∨ i = 5 ∨ i = 6 by omega) with e | e | e | e | e | e <;> subst e <;> simp [bitB, insBit, hop]
      have hm4 : m1 4 = someB (wordsU u) (posIns pre) 4 := by rw [hmm]; simp [bitB]
      have q21 : (y.1.2.op == (21 : Int)) = false := by rw [hop]; rfl
      have q22 : (y.1.2.op == (22 : Int)) = false := by rw [hop]; rfl
      have q18 : (y.1.2.op == (18 : Int)) = false := by rw [hop]; rfl
      have q19 : (y.1.2.op == (19 : Int)) = false := by rw [hop]; rfl
      have q20 : (y.1.2.op == (20 : Int)) = true := by rw [hop]; rfl
      gi_wp2
      obtain ⟨W1, hW1⟩ : ∃ W1, W1 = W.setCell ⟨w2.heap.size, 0, none⟩ (.int .i64 (bits .or .i64 (maskI (someB (wordsU u) (posIns pre))) 32)) := ⟨_, rfl⟩
      rw [← hW1]
      have hg1 : W.grownBy W1 (some w2.heap.size) := by rw [hW1]; exact grow_set (grown_refl W _) _ _
      have hO1 : W1.heap[w2.heap.size]? = some (.cells #[.int .i64 (maskI m1)] 3 (0, 0)) := by
        rw [hmm, hW1, heap_set HO0.out, ← or_mask, bit5]
        rfl
      have hs1 := hg1.size
      have hB1 : Below w.heap.size W W1 := (Below.refl _ _).grown hg1 (by omega) (fun kk e => by cases e; omega)
      clear hW1 hmm
      have hx0 := (hB1.cell (p := ⟨y.1.1.1, y.1.1.2, none⟩) hlW).trans y0
      have hx1 := (hB1.cell (p := ⟨y.1.1.1, y.1.1.2 + 1, none⟩) hlW).trans y1
      have hx2 := (hB1.cell (p := ⟨y.1.1.1, y.1.1.2 + 2, none⟩) hlW).trans y2
      have hx3 := (hB1.cell (p := ⟨y.1.1.1, y.1.1.2 + 3, none⟩) hlW).trans y3
      have hx4 := (hB1.cell (p := ⟨y.1.1.1, y.1.1.2 + 4, none⟩) hlW).trans y4
      have hx5 := (hB1.cell (p := ⟨y.1.1.1, y.1.1.2 + 5, none⟩) hlW).trans y5
      have hx6 := (hB1.cell (p := ⟨y.1.1.1, y.1.1.2 + 6, none⟩) hlW).trans y6
      have hx7 := (hB1.cell (p := ⟨y.1.1.1, y.1.1.2 + 7, none⟩) hlW).trans y7
      have hxw := (World.cell?_of_block (a := ⟨w2.heap.size + 1, 0, none⟩) (hg1.block (w2.heap.size + 1) (by omega) (by simp))).trans cW
      have hlW1 : y.1.1.1 < W1.heap.size := by omega
      have hwW1 : w2.heap.size + 1 < W1.heap.size := by omega
      refine wpIn_region_round (S := (fun W' : World => W'.cell? ⟨y.1.1.1, y.1.1.2, none⟩ = some (.int .i64 y.1.2.op) ∧ W'.cell? ⟨y.1.1.1, y.1.1.2 + 1, none⟩ = some (.int .i64 y.1.2.dst) ∧ W'.cell? ⟨y.1.1.1, y.1.1.2 + 2, none⟩ = some (.bool y.1.2.ar) ∧ W'.cell? ⟨y.1.1.1, y.1.1.2 + 3, none⟩ = some (.int .i64 y.1.2.an) ∧ W'.cell? ⟨y.1.1.1, y.1.1.2 + 4, none⟩ = some (.bool y.1.2.br) ∧ W'.cell? ⟨y.1.1.1, y.1.1.2 + 5, none⟩ = some (.int .i64 y.1.2.bn) ∧ W'.cell? ⟨y.1.1.1, y.1.1.2 + 6, none⟩ = some (.int .i64 y.1.2.fn) ∧ W'.cell? ⟨y.1.1.1, y.1.1.2 + 7, none⟩ = some (.slice q4 y.1.2.args.length c4) ∧ W'.cell? ⟨w2.heap.size + 1, 0, none⟩ = some (.int .i64 (wordsU u)))) (by kernel_rfl) (fun ⟨_, _, h⟩ => h) (by kernel_rfl) 5 ?_
      have hS : (fun W' : World => W'.cell? ⟨y.1.1.1, y.1.1.2, none⟩ = some (.int .i64 y.1.2.op) ∧ W'.cell? ⟨y.1.1.1, y.1.1.2 + 1, none⟩ = some (.int .i64 y.1.2.dst) ∧ W'.cell? ⟨y.1.1.1, y.1.1.2 + 2, none⟩ = some (.bool y.1.2.ar) ∧ W'.cell? ⟨y.1.1.1, y.1.1.2 + 3, none⟩ = some (.int .i64 y.1.2.an) ∧ W'.cell? ⟨y.1.1.1, y.1.1.2 + 4, none⟩ = some (.bool y.1.2.br) ∧ W'.cell? ⟨y.1.1.1, y.1.1.2 + 5, none⟩ = some (.int .i64 y.1.2.bn) ∧ W'.cell? ⟨y.1.1.1, y.1.1.2 + 6, none⟩ = some (.int .i64 y.1.2.fn) ∧ W'.cell? ⟨y.1.1.1, y.1.1.2 + 7, none⟩ = some (.slice q4 y.1.2.args.length c4) ∧ W'.cell? ⟨w2.heap.size + 1, 0, none⟩ = some (.int .i64 (wordsU u))) W1.drew := ⟨hx0, hx1, hx2, hx3, hx4, hx5, hx6, hx7, hxw⟩
      refine wpAnyZ_takeA (i := 0) (v := (.pointer (some ⟨y.1.1.1, y.1.1.2, none⟩))) rfl (Nat.le_refl _) (by kernel_rfl) (by kernel_rfl) (by kernel_rfl) (fun _ _ _ h => h) (.inl ⟨rfl, fun W' hS' => (by obtain ⟨h1, h2, h3, h4, h5, h6, h7, h8, h9⟩ := hS'; go_simp)⟩) hS ?_
      refine wpAnyZ_takeA (i := 1) (v := (.pointer (some ⟨y.1.1.1, y.1.1.2, none⟩))) rfl (Nat.le_refl _) (by kernel_rfl) (by kernel_rfl) (by kernel_rfl) (fun _ _ _ h => h) (.inl ⟨rfl, fun W' hS' => (by obtain ⟨h1, h2, h3, h4, h5, h6, h7, h8, h9⟩ := hS'; go_simp)⟩) hS ?_
      refine wpAnyZ_takeA (i := 2) (v := (.agg #[.int .i64 y.1.2.op, .int .i64 y.1.2.dst, .bool y.1.2.ar, .int .i64 y.1.2.an, .bool y.1.2.br, .int .i64 y.1.2.bn, .int .i64 y.1.2.fn, .slice q4 y.1.2.args.length c4])) rfl (Nat.le_refl _) (by kernel_rfl) (by kernel_rfl) (by kernel_rfl) (fun _ _ _ h => h) (.inl ⟨rfl, fun W' hS' => (by obtain ⟨h1, h2, h3, h4, h5, h6, h7, h8, h9⟩ := hS'; go_simp)⟩) hS ?_
      refine wpAnyZ_takeA (i := 3) (v := (.int .i64 (wordsU u))) rfl (Nat.le_refl _) (by kernel_rfl) (by kernel_rfl) (by kernel_rfl) (fun _ _ _ h => h) (.inl ⟨rfl, fun W' hS' => (by obtain ⟨h1, h2, h3, h4, h5, h6, h7, h8, h9⟩ := hS'; go_simp)⟩) hS ?_
      refine wpAnyZ_call (i := 4) (f := 89) (args := #[.agg #[.int .i64 y.1.2.op, .int .i64 y.1.2.dst, .bool y.1.2.ar, .int .i64 y.1.2.an, .bool y.1.2.br, .int .i64 y.1.2.bn, .int .i64 y.1.2.fn, .slice q4 y.1.2.args.length c4], .int .i64 (wordsU u)]) (by kernel_rfl) rfl rfl (by go_simp) (may_any y.1.2.op y.1.2.dst y.1.2.an y.1.2.bn y.1.2.fn (wordsU u) y.1.2.ar y.1.2.br q4 y.1.2.args.length c4 W1.drew) ?_
      rintro e w4 ⟨rfl, hb4'⟩
      have hb4 : Below W1.heap.size W1 w4 := Below.trans (Below.refl _ _).drew hb4'
      have hS4 : (fun W' : World => W'.cell? ⟨y.1.1.1, y.1.1.2, none⟩ = some (.int .i64 y.1.2.op) ∧ W'.cell? ⟨y.1.1.1, y.1.1.2 + 1, none⟩ = some (.int .i64 y.1.2.dst) ∧ W'.cell? ⟨y.1.1.1, y.1.1.2 + 2, none⟩ = some (.bool y.1.2.ar) ∧ W'.cell? ⟨y.1.1.1, y.1.1.2 + 3, none⟩ = some (.int .i64 y.1.2.an) ∧ W'.cell? ⟨y.1.1.1, y.1.1.2 + 4, none⟩ = some (.bool y.1.2.br) ∧ W'.cell? ⟨y.1.1.1, y.1.1.2 + 5, none⟩ = some (.int .i64 y.1.2.bn) ∧ W'.cell? ⟨y.1.1.1, y.1.1.2 + 6, none⟩ = some (.int .i64 y.1.2.fn) ∧ W'.cell? ⟨y.1.1.1, y.1.1.2 + 7, none⟩ = some (.slice q4 y.1.2.args.length c4) ∧ W'.cell? ⟨w2.heap.size + 1, 0, none⟩ = some (.int .i64 (wordsU u))) w4 := ⟨(hb4.cell (p := ⟨y.1.1.1, y.1.1.2, none⟩) hlW1).trans hx0, (hb4.cell (p := ⟨y.1.1.1, y.1.1.2 + 1, none⟩) hlW1).trans hx1, (hb4.cell (p := ⟨y.1.1.1, y.1.1.2 + 2, none⟩) hlW1).trans hx2, (hb4.cell (p := ⟨y.1.1.1, y.1.1.2 + 3, none⟩) hlW1).trans hx3, (hb4.cell (p := ⟨y.1.1.1, y.1.1.2 + 4, none⟩) hlW1).trans hx4, (hb4.cell (p := ⟨y.1.1.1, y.1.1.2 + 5, none⟩) hlW1).trans hx5, (hb4.cell (p := ⟨y.1.1.1, y.1.1.2 + 6, none⟩) hlW1).trans hx6, (hb4.cell (p := ⟨y.1.1.1, y.1.1.2 + 7, none⟩) hlW1).trans hx7, (hb4.cell (p := ⟨w2.heap.size + 1, 0, none⟩) hwW1).trans hxw⟩
      refine ⟨_, rfl, fun _ => hS4, wpAnyZ_done (by kernel_rfl) ?_ _⟩
      have hg4 : W.grownBy w4 (some w2.heap.size) := grow_below hg1 hb4
      have hO4 := (hb4.block w2.heap.size (show _ < W1.heap.size by omega)).trans hO1
      obtain ⟨hc4, hf4⟩ := blk hO4
      have z4 := (Array.getElem?_eq_some_iff.1 hO4).1
      have HG4 := hidI hg4
      have HO4 := hidI hO4
      clear hb4 hb4' hg4 hO4 hS hS4 hx0 hx1 hx2 hx3 hx4 hx5 hx6 hx7 hxw
      show Exit.then _ _ Exit.normal _ _
      cases hmay : mayB y.1.2.op y.1.2.an y.1.2.bn y.1.2.ar y.1.2.br (wordsU u) with
      | true =>
        gi_wp2
        refine own_fin HG0.out ⟨_, _, HO0.out⟩ (by omega) (by omega) (by omega) (by omega) (grow_set HG4.out _ _) (m := fun i => m1 i || bitB 4 i) ?_ fun i hi => ?_
        · rw [heap_set HO4.out, ← or_mask, bit4]
          rfl
        · show (m1 i || bitB 4 i) = _
          rw [posIns_snoc, someB_snoc]
          by_cases e : i = 4
          · subst e
            simp [bitB, insBit, hmay]
          · rw [hm1 i hi e]
            simp [bitB, e]
      | false =>
        gi_wp2
        refine own_fin HG0.out ⟨_, _, HO0.out⟩ (by omega) (by omega) (by omega) (by omega) HG4.out HO4.out fun i hi => ?_
        rw [posIns_snoc, someB_snoc]
        by_cases e : i = 4
        · subst e
          rw [hm4]
          simp [insBit, hmay]
        · exact hm1 i hi e
    · have hm1 : ∀ i, i < 7 → i ≠ 4 → someB (wordsU u) (posIns pre) i = (someB (wordsU u) (posIns pre) i || insBit (wordsU u) y.1.2 i) := fun i hi h4 => by
        rcases (show i = 0 ∨ i = 1 ∨ i = 2 ∨ i = 3 ∨ i = 5 ∨ i = 6 by omega) with e | e | e | e | e | e <;> subst e <;> simp [insBit, hop.1, hop.2.1, hop.2.2.1, hop.2.2.2.1, hop.2.2.2.2]
      have hm4 : someB (wordsU u) (posIns pre) 4 = someB (wordsU u) (posIns pre) 4 := rfl
      have q21 : (y.1.2.op == (21 : Int)) = false := by rw [beq_eq_false_iff_ne]; omega
      have q22 : (y.1.2.op == (22 : Int)) = false := by rw [beq_eq_false_iff_ne]; omega
      have q18 : (y.1.2.op == (18 : Int)) = false := by rw [beq_eq_false_iff_ne]; omega
      have q19 : (y.1.2.op == (19 : Int)) = false := by rw [beq_eq_false_iff_ne]; omega
      have q20 : (y.1.2.op == (20 : Int)) = false := by rw [beq_eq_false_iff_ne]; omega
      gi_wp2
      obtain ⟨W1, hW1⟩ : ∃ W1, W1 = W := ⟨_, rfl⟩
      rw [← hW1]
      have hg1 : W.grownBy W1 (some w2.heap.size) := by rw [hW1]; exact grown_refl W _
      have hO1 : W1.heap[w2.heap.size]? = some (.cells #[.int .i64 (maskI (someB (wordsU u) (posIns pre)))] 3 (0, 0)) := by rw [hW1]; exact HO0.out
      have hs1 := hg1.size
      have hB1 : Below w.heap.size W W1 := (Below.refl _ _).grown hg1 (by omega) (fun kk e => by cases e; omega)
      clear hW1
      revert hm1 hm4 hO1
      obtain ⟨m1, hmm⟩ : ∃ m1, m1 = someB (wordsU u) (posIns pre) := ⟨_, rfl⟩
      rw [← hmm]
      intro hm1 hm4 hO1
      rw [hmm] at hm1
      have hm1 : ∀ i, i < 7 → i ≠ 4 → m1 i = (someB (wordsU u) (posIns pre) i || insBit (wordsU u) y.1.2 i) := by rw [hmm]; exact hm1
      have hm4 : m1 4 = someB (wordsU u) (posIns pre) 4 := by rw [hmm]
      clear hmm
      have hx0 := (hB1.cell (p := ⟨y.1.1.1, y.1.1.2, none⟩) hlW).trans y0
      have hx1 := (hB1.cell (p := ⟨y.1.1.1, y.1.1.2 + 1, none⟩) hlW).trans y1
      have hx2 := (hB1.cell (p := ⟨y.1.1.1, y.1.1.2 + 2, none⟩) hlW).trans y2
      have hx3 := (hB1.cell (p := ⟨y.1.1.1, y.1.1.2 + 3, none⟩) hlW).trans y3
      have hx4 := (hB1.cell (p := ⟨y.1.1.1, y.1.1.2 + 4, none⟩) hlW).trans y4
      have hx5 := (hB1.cell (p := ⟨y.1.1.1, y.1.1.2 + 5, none⟩) hlW).trans y5
      have hx6 := (hB1.cell (p := ⟨y.1.1.1, y.1.1.2 + 6, none⟩) hlW).trans y6
      have hx7 := (hB1.cell (p := ⟨y.1.1.1, y.1.1.2 + 7, none⟩) hlW).trans y7
      have hxw := (World.cell?_of_block (a := ⟨w2.heap.size + 1, 0, none⟩) (hg1.block (w2.heap.size + 1) (by omega) (by simp))).trans cW
      have hlW1 : y.1.1.1 < W1.heap.size := by omega
      have hwW1 : w2.heap.size + 1 < W1.heap.size := by omega
      refine wpIn_region_round (S := (fun W' : World => W'.cell? ⟨y.1.1.1, y.1.1.2, none⟩ = some (.int .i64 y.1.2.op) ∧ W'.cell? ⟨y.1.1.1, y.1.1.2 + 1, none⟩ = some (.int .i64 y.1.2.dst) ∧ W'.cell? ⟨y.1.1.1, y.1.1.2 + 2, none⟩ = some (.bool y.1.2.ar) ∧ W'.cell? ⟨y.1.1.1, y.1.1.2 + 3, none⟩ = some (.int .i64 y.1.2.an) ∧ W'.cell? ⟨y.1.1.1, y.1.1.2 + 4, none⟩ = some (.bool y.1.2.br) ∧ W'.cell? ⟨y.1.1.1, y.1.1.2 + 5, none⟩ = some (.int .i64 y.1.2.bn) ∧ W'.cell? ⟨y.1.1.1, y.1.1.2 + 6, none⟩ = some (.int .i64 y.1.2.fn) ∧ W'.cell? ⟨y.1.1.1, y.1.1.2 + 7, none⟩ = some (.slice q4 y.1.2.args.length c4) ∧ W'.cell? ⟨w2.heap.size + 1, 0, none⟩ = some (.int .i64 (wordsU u)))) (by kernel_rfl) (fun ⟨_, _, h⟩ => h) (by kernel_rfl) 5 ?_
      have hS : (fun W' : World => W'.cell? ⟨y.1.1.1, y.1.1.2, none⟩ = some (.int .i64 y.1.2.op) ∧ W'.cell? ⟨y.1.1.1, y.1.1.2 + 1, none⟩ = some (.int .i64 y.1.2.dst) ∧ W'.cell? ⟨y.1.1.1, y.1.1.2 + 2, none⟩ = some (.bool y.1.2.ar) ∧ W'.cell? ⟨y.1.1.1, y.1.1.2 + 3, none⟩ = some (.int .i64 y.1.2.an) ∧ W'.cell? ⟨y.1.1.1, y.1.1.2 + 4, none⟩ = some (.bool y.1.2.br) ∧ W'.cell? ⟨y.1.1.1, y.1.1.2 + 5, none⟩ = some (.int .i64 y.1.2.bn) ∧ W'.cell? ⟨y.1.1.1, y.1.1.2 + 6, none⟩ = some (.int .i64 y.1.2.fn) ∧ W'.cell? ⟨y.1.1.1, y.1.1.2 + 7, none⟩ = some (.slice q4 y.1.2.args.length c4) ∧ W'.cell? ⟨w2.heap.size + 1, 0, none⟩ = some (.int .i64 (wordsU u))) W1.drew := ⟨hx0, hx1, hx2, hx3, hx4, hx5, hx6, hx7, hxw⟩
      refine wpAnyZ_takeA (i := 0) (v := (.pointer (some ⟨y.1.1.1, y.1.1.2, none⟩))) rfl (Nat.le_refl _) (by kernel_rfl) (by kernel_rfl) (by kernel_rfl) (fun _ _ _ h => h) (.inl ⟨rfl, fun W' hS' => (by obtain ⟨h1, h2, h3, h4, h5, h6, h7, h8, h9⟩ := hS'; go_simp)⟩) hS ?_
      refine wpAnyZ_takeA (i := 1) (v := (.pointer (some ⟨y.1.1.1, y.1.1.2, none⟩))) rfl (Nat.le_refl _) (by kernel_rfl) (by kernel_rfl) (by kernel_rfl) (fun _ _ _ h => h) (.inl ⟨rfl, fun W' hS' => (by obtain ⟨h1, h2, h3, h4, h5, h6, h7, h8, h9⟩ := hS'; go_simp)⟩) hS ?_
      refine wpAnyZ_takeA (i := 2) (v := (.agg #[.int .i64 y.1.2.op, .int .i64 y.1.2.dst, .bool y.1.2.ar, .int .i64 y.1.2.an, .bool y.1.2.br, .int .i64 y.1.2.bn, .int .i64 y.1.2.fn, .slice q4 y.1.2.args.length c4])) rfl (Nat.le_refl _) (by kernel_rfl) (by kernel_rfl) (by kernel_rfl) (fun _ _ _ h => h) (.inl ⟨rfl, fun W' hS' => (by obtain ⟨h1, h2, h3, h4, h5, h6, h7, h8, h9⟩ := hS'; go_simp)⟩) hS ?_
      refine wpAnyZ_takeA (i := 3) (v := (.int .i64 (wordsU u))) rfl (Nat.le_refl _) (by kernel_rfl) (by kernel_rfl) (by kernel_rfl) (fun _ _ _ h => h) (.inl ⟨rfl, fun W' hS' => (by obtain ⟨h1, h2, h3, h4, h5, h6, h7, h8, h9⟩ := hS'; go_simp)⟩) hS ?_
      refine wpAnyZ_call (i := 4) (f := 89) (args := #[.agg #[.int .i64 y.1.2.op, .int .i64 y.1.2.dst, .bool y.1.2.ar, .int .i64 y.1.2.an, .bool y.1.2.br, .int .i64 y.1.2.bn, .int .i64 y.1.2.fn, .slice q4 y.1.2.args.length c4], .int .i64 (wordsU u)]) (by kernel_rfl) rfl rfl (by go_simp) (may_any y.1.2.op y.1.2.dst y.1.2.an y.1.2.bn y.1.2.fn (wordsU u) y.1.2.ar y.1.2.br q4 y.1.2.args.length c4 W1.drew) ?_
      rintro e w4 ⟨rfl, hb4'⟩
      have hb4 : Below W1.heap.size W1 w4 := Below.trans (Below.refl _ _).drew hb4'
      have hS4 : (fun W' : World => W'.cell? ⟨y.1.1.1, y.1.1.2, none⟩ = some (.int .i64 y.1.2.op) ∧ W'.cell? ⟨y.1.1.1, y.1.1.2 + 1, none⟩ = some (.int .i64 y.1.2.dst) ∧ W'.cell? ⟨y.1.1.1, y.1.1.2 + 2, none⟩ = some (.bool y.1.2.ar) ∧ W'.cell? ⟨y.1.1.1, y.1.1.2 + 3, none⟩ = some (.int .i64 y.1.2.an) ∧ W'.cell? ⟨y.1.1.1, y.1.1.2 + 4, none⟩ = some (.bool y.1.2.br) ∧ W'.cell? ⟨y.1.1.1, y.1.1.2 + 5, none⟩ = some (.int .i64 y.1.2.bn) ∧ W'.cell? ⟨y.1.1.1, y.1.1.2 + 6, none⟩ = some (.int .i64 y.1.2.fn) ∧ W'.cell? ⟨y.1.1.1, y.1.1.2 + 7, none⟩ = some (.slice q4 y.1.2.args.length c4) ∧ W'.cell? ⟨w2.heap.size + 1, 0, none⟩ = some (.int .i64 (wordsU u))) w4 := ⟨(hb4.cell (p := ⟨y.1.1.1, y.1.1.2, none⟩) hlW1).trans hx0, (hb4.cell (p := ⟨y.1.1.1, y.1.1.2 + 1, none⟩) hlW1).trans hx1, (hb4.cell (p := ⟨y.1.1.1, y.1.1.2 + 2, none⟩) hlW1).trans hx2, (hb4.cell (p := ⟨y.1.1.1, y.1.1.2 + 3, none⟩) hlW1).trans hx3, (hb4.cell (p := ⟨y.1.1.1, y.1.1.2 + 4, none⟩) hlW1).trans hx4, (hb4.cell (p := ⟨y.1.1.1, y.1.1.2 + 5, none⟩) hlW1).trans hx5, (hb4.cell (p := ⟨y.1.1.1, y.1.1.2 + 6, none⟩) hlW1).trans hx6, (hb4.cell (p := ⟨y.1.1.1, y.1.1.2 + 7, none⟩) hlW1).trans hx7, (hb4.cell (p := ⟨w2.heap.size + 1, 0, none⟩) hwW1).trans hxw⟩
      refine ⟨_, rfl, fun _ => hS4, wpAnyZ_done (by kernel_rfl) ?_ _⟩
      have hg4 : W.grownBy w4 (some w2.heap.size) := grow_below hg1 hb4
      have hO4 := (hb4.block w2.heap.size (show _ < W1.heap.size by omega)).trans hO1
      obtain ⟨hc4, hf4⟩ := blk hO4
      have z4 := (Array.getElem?_eq_some_iff.1 hO4).1
      have HG4 := hidI hg4
      have HO4 := hidI hO4
      clear hb4 hb4' hg4 hO4 hS hS4 hx0 hx1 hx2 hx3 hx4 hx5 hx6 hx7 hxw
      show Exit.then _ _ Exit.normal _ _
      cases hmay : mayB y.1.2.op y.1.2.an y.1.2.bn y.1.2.ar y.1.2.br (wordsU u) with
      | true =>
        gi_wp2
        refine own_fin HG0.out ⟨_, _, HO0.out⟩ (by omega) (by omega) (by omega) (by omega) (grow_set HG4.out _ _) (m := fun i => m1 i || bitB 4 i) ?_ fun i hi => ?_
        · rw [heap_set HO4.out, ← or_mask, bit4]
          rfl
        · show (m1 i || bitB 4 i) = _
          rw [posIns_snoc, someB_snoc]
          by_cases e : i = 4
          · subst e
            simp [bitB, insBit, hmay]
          · rw [hm1 i hi e]
            simp [bitB, e]
      | false =>
        gi_wp2
        refine own_fin HG0.out ⟨_, _, HO0.out⟩ (by omega) (by omega) (by omega) (by omega) HG4.out HO4.out fun i hi => ?_
        rw [posIns_snoc, someB_snoc]
        by_cases e : i = 4
        · subst e
          rw [hm4]
          simp [insBit, hmay]
        · exact hm1 i hi e
  case done =>
    rintro l pre W h1 h2 ⟨hO, hg⟩ hDl
    rw [h2] at hO
    have hgs := hg.size
    have hWW : Below w.heap.size w W := HWa.out.grown hg (by omega) (fun kk e => by cases e; omega)
    have hws := hWW.size
    have z0 := hWW.cell (p := ⟨b2, o2 + k * 4, none⟩) hbb
    have e0' := z0.trans E0.out
    have e1' := (hWW.cell (p := ⟨b2, o2 + k * 4 + 1, none⟩) hbb).trans E1.out
    have e2' := (hWW.cell (p := ⟨b2, o2 + k * 4 + 2, none⟩) hbb).trans E2.out
    have e3' := (hWW.cell (p := ⟨b2, o2 + k * 4 + 3, none⟩) hbb).trans E3.out
    have hU := (hg.block w.heap.size (by omega) (by simp; omega)).trans HUb.out
    obtain ⟨hcU, hfU⟩ := blk hU
    have zU := (Array.getElem?_eq_some_iff.1 hU).1
    have zb : b2 < W.heap.size := by omega
    have HO := hidI hO
    have HWW := hidI hWW
    have HDl := hidI hDl
    have HLow : Hid (w.heap.size ≤ l) := hidI (Nat.le_trans HWa.out.size h1)
    have HSz : Hid (SliceAt W 6 (BlkR W) q u.funcs[k].blocks) := hidI (blksMono HBS.out hWW)
    have hnb := (HU.out.fn hk).2.2.1.2
    have HTo : Hid (∀ j (h : j < u.funcs[k].blocks.length), ∀ t ∈ u.funcs[k].blocks[j].fin.to, 0 ≤ t ∧ t < (u.funcs[k].blocks.length : Int)) := hidI fun j hj t ht => by
      have := endE_zero (bodyE_end (HU.out.bodyZ hk) hj)
      have := this.2 t ht
      omega
    clear hO hg hDl h1 h2 z0 hU hWW
    gi_wp2_with (refine ⟨trivial, ?_⟩; refine ((callsIn_wide (n := 2)).2 (goesRound_any u.funcs[k] q c _ (by omega) HSz.out HTo.out)).mono ?_; rintro e w4 ⟨rfl, hb4⟩; have hO4 := (hb4.block w2.heap.size (by omega)).trans HO.out; have HD4 := hidI ((hb4.block l (Array.getElem?_eq_some_iff.1 HDl.out).1).trans HDl.out); have HB4 : Hid (Below w.heap.size w w4) := HWW.out.trans (hb4.mono (by omega)); obtain ⟨hc4, hf4⟩ := blk hO4; have z4 := (Array.getElem?_eq_some_iff.1 hO4).1; have HO4 := hidI hO4; clear hb4 hO4)
    · have hr : roundB u.funcs[k] = true := by assumption
      show LeavesInM _ _ _ _ _ _ (marks [l]) .returning _
      have hld : (w4.setCell ⟨w2.heap.size, 0, none⟩ (.int .i64 (bits .or .i64 (maskI (someB (wordsU u) (allIns u.funcs[k]))) 64))).heap[l]? = some (.deferred (some [])) := (Go.Deep.blk_setCell_other w4 ⟨w2.heap.size, 0, none⟩ _ l (fun e => by have e2 : l = w2.heap.size := e; have h := HD4.out; rw [e2, HO4.out] at h; cases h)).trans HD4.out
      have hlow : w.heap.size ≤ l := HLow.out
      have hB4 : Below w.heap.size w (w4.setCell ⟨w2.heap.size, 0, none⟩ (.int .i64 (bits .or .i64 (maskI (someB (wordsU u) (allIns u.funcs[k]))) 64))) := HB4.out.setCell (Nat.le_of_lt hz) _
      refine leaves_marks w.heap.size [l] _ (List.pairwise_singleton _ _) (fun D hD => by obtain rfl : D = l := (by simpa using hD); exact ⟨hlow, hld⟩) (fun w' h1 h2 h3 h4 h5 => ⟨_, results_tmp (t := 4) rfl _ _ _, ?_, ?_⟩)
      · show Ending.returned (.int .i64 (bits .or .i64 (maskI (someB (wordsU u) (allIns u.funcs[k]))) 64)) = _
        rw [← bit6, or_mask, fnU_get hk]
        refine congrArg (fun n => Ending.returned (.int .i64 n)) (maskI_congr fun i hi => ?_)
        by_cases e : i = 6
        · subst e; simp [bitB, hr]
        · rw [someB_all, if_neg e]; simp [bitB, e]
      · exact ⟨h1.trans hB4.os, h2.trans hB4.tape, h3.trans hB4.output, Nat.le_trans hB4.size h4, fun i hi => (h5 i (fun hh => by have := List.mem_singleton.1 hh; omega)).trans (hB4.block i hi)⟩
    · have hr : roundB u.funcs[k] = false := by first | assumption | (rename_i h; simpa using h)
      show LeavesInM _ _ _ _ _ _ (marks [l]) .returning _
      have hlow : w.heap.size ≤ l := HLow.out
      refine leaves_marks w.heap.size [l] _ (List.pairwise_singleton _ _) (fun D hD => by obtain rfl : D = l := (by simpa using hD); exact ⟨hlow, HD4.out⟩) (fun w' h1 h2 h3 h4 h5 => ⟨_, results_tmp (t := 4) rfl _ _ _, ?_, ?_⟩)
      · show Ending.returned (.int .i64 (maskI (someB (wordsU u) (allIns u.funcs[k])))) = _
        rw [fnU_get hk]
        refine congrArg (fun n => Ending.returned (.int .i64 n)) (maskI_congr fun i hi => ?_)
        by_cases e : i = 6
        · subst e
          rw [if_pos rfl, hr]
          simp [someB, insBit]
        · rw [someB_all, if_neg e]
      · exact ⟨h1.trans HB4.out.os, h2.trans HB4.out.tape, h3.trans HB4.out.output, Nat.le_trans HB4.out.size h4, fun i hi => (h5 i (fun hh => by have := List.mem_singleton.1 hh; omega)).trans (HB4.out.block i hi)⟩
  case stop =>
    rintro D c pre W _ _ h _
    exact h.elim
end Go.Proofs.YtlalmbklhmpngaaDoor
