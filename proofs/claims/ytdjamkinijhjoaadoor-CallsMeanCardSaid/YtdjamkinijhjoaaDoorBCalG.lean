/-
  The contract of calls.Each: an iterator over the instructions of a function.
Inside a round of a loop over an iterator: a region that draws its order is walked as everywhere.
Plain: a table of rows of numbers in a world; the marks of loops over iterators at a function's end.
-/
import Derived.Test.YtdjamkinijhjoaaDoorChkS
import Derived.RangeFuncNested
import Derived.RangeFuncBound
import Derived.RangeFuncCalls
import Derived.RangeFuncLeaves
import Derived.RangeFuncBox
import Derived.Shelf.Abstract
import Derived.Shelf.RegionOpen
import Derived.OwnWalkIn
import Derived.TacticsInMore
import Derived.LoopNIn
import Derived.LoopIn
import Derived.WalkKit
import Derived.WalkSpells
import Derived.WalkLawsBesides
import Derived.OrdersHeld
import Derived.OrdersIn
import Derived.Maps.AppendAt
import Derived.Test.YtdjamkinijhjoaaDoorBCalA
import Derived.Deep.OwnRows
namespace Go.Proofs.YtdjamkinijhjoaaDoor
open Go.RowKit Go.Shelf
attribute [local go_sem] Oper.semAt_some

/-- the eight cells of an instruction lie at a place -/
def InsCell (w : World) (b o : Nat) (x : InsL) : Prop :=
  ∃ q c, w.cell? ⟨b, o, none⟩ = some (.int .i64 x.op) ∧ w.cell? ⟨b, o + 1, none⟩ = some (.int .i64 x.dst) ∧ w.cell? ⟨b, o + 2, none⟩ = some (.bool x.ar) ∧ w.cell? ⟨b, o + 3, none⟩ = some (.int .i64 x.an) ∧ w.cell? ⟨b, o + 4, none⟩ = some (.bool x.br) ∧ w.cell? ⟨b, o + 5, none⟩ = some (.int .i64 x.bn) ∧ w.cell? ⟨b, o + 6, none⟩ = some (.int .i64 x.fn) ∧ w.cell? ⟨b, o + 7, none⟩ = some (.slice q x.args.length c) ∧ I64 x.op ∧ I64 x.dst ∧ I64 x.an ∧ I64 x.bn ∧ I64 x.fn ∧ x.args.length * 16 ≤ 140737488351232 ∧ SliceAt w 2 ValR q x.args
/-- an instruction and its place -/
abbrev InsPos (w : World) := { y : (Nat × Nat) × InsL // InsCell w y.1.1 y.1.2 y.2 }
def posEnc (w : World) (y : InsPos w) : Array Value := #[.pointer (some ⟨y.1.1.1, y.1.1.2, none⟩)]
/-- all instructions of a function, in the order of the text -/
def allIns (f : FunL) : List InsL := f.blocks.flatMap fun b => b.list
def posIns {w : World} (ys : List (InsPos w)) : List InsL := ys.map fun y => y.1.2
theorem posIns_snoc {w : World} (ys : List (InsPos w)) (y : InsPos w) : posIns (ys ++ [y]) = posIns ys ++ [y.1.2] := by simp [posIns]
theorem posIns_len {w : World} (ys : List (InsPos w)) : (posIns ys).length = ys.length := by simp [posIns]
/-- what a round keeps: what lay below n₀, and the box -/
def EachK (n₀ Bx : Nat) (W W' : World) : Prop := Below n₀ W W' ∧ W'.heap[Bx]? = W.heap[Bx]?
theorem eachK_t {n₀ Bx : Nat} {A B C : World} (h : EachK n₀ Bx A B) (k : EachK n₀ Bx B C) : EachK n₀ Bx A C := ⟨h.1.trans k.1, k.2.trans h.2⟩
theorem eachK_b {n₀ Bx : Nat} {w : World} (hn : n₀ ≤ w.heap.size) (hB : Bx < w.heap.size) (W : World) (l : Nat) (o o' : Obj) (hl : w.heap.size ≤ l) (h : W.heap[l]? = some o) (ho : o.isCells = false) (hw : o.isWalk = false) : EachK n₀ Bx W (W.putObj l o') :=
  ⟨belowK_b hn W l o o' hl h ho hw, World.putObj_heap_other (by omega)⟩
/-- the instructions ahead of instruction j of block m -/
def insTo (f : FunL) (m j : Nat) : List InsL := (f.blocks.take m).flatMap (fun b => b.list) ++ ((f.blocks[m]?.map fun b => b.list.take j).getD [])
theorem insTo_zero (f : FunL) : insTo f 0 0 = [] := by
  unfold insTo
  cases f.blocks[0]? <;> simp
theorem insTo_next {f : FunL} {m j : Nat} (hm : m < f.blocks.length) (hj : j < f.blocks[m].list.length) : insTo f m (j + 1) = insTo f m j ++ [f.blocks[m].list[j]] := by
  unfold insTo
  rw [List.getElem?_eq_getElem hm]
  simp only [Option.map_some, Option.getD_some, List.take_succ_eq_append_getElem hj, List.append_assoc]
theorem insTo_blk {f : FunL} {m : Nat} (hm : m < f.blocks.length) : insTo f m f.blocks[m].list.length = insTo f (m + 1) 0 := by
  unfold insTo
  have e : (f.blocks.take (m + 1)).flatMap (fun b => b.list) = (f.blocks.take m).flatMap (fun b => b.list) ++ f.blocks[m].list := by
    rw [List.take_succ_eq_append_getElem hm, List.flatMap_append]
    simp
  rw [List.getElem?_eq_getElem hm, e]
  cases f.blocks[m + 1]? <;> simp
theorem insTo_all (f : FunL) : insTo f f.blocks.length 0 = allIns f := by
  unfold insTo allIns
  rw [List.getElem?_eq_none (Nat.le_refl _), List.take_length]
  simp
theorem insTo_len {f : FunL} {m j : Nat} (hm : m < f.blocks.length) (hj : j < f.blocks[m].list.length) : (insTo f m j).length < (allIns f).length := by
  have h1 : allIns f = insTo f m j ++ (f.blocks[m].list.drop j ++ (f.blocks.drop (m + 1)).flatMap fun b => b.list) := by
    unfold allIns insTo
    rw [List.getElem?_eq_getElem hm]
    simp only [Option.map_some, Option.getD_some]
    conv => lhs; rw [← List.take_append_drop m f.blocks, List.drop_eq_getElem_cons hm]
    rw [List.flatMap_append, List.flatMap_cons, List.append_assoc, ← List.append_assoc (f.blocks[m].list.take j), List.take_append_drop]
  rw [h1, List.length_append, List.length_append, List.length_drop]
  omega

set_option maxRecDepth 100000 in
set_option maxHeartbeats 2000000 in
theorem each1_in (F : Fence) (n : Nat) (hF : F.fn 67) (hro : F.round = none) (hn : 1 ≤ n) (l Bx fb fo c : Nat) (q : Option Addr) (f : FunL) (wa : World) (hfn : wa.cell? ⟨fb, fo + 3, none⟩ = some (.slice q f.blocks.length c)) (hbl : f.blocks.length * 96 ≤ 140737488351232) (hbs : SliceAt wa 6 (BlkR wa) q f.blocks) (_hBn : wa.heap.size ≤ Bx)
    (J Jx : List (InsPos wa) → World → Prop)
    (hY : ∀ pre x W, J pre W → pre.length < (allIns f).length → YieldAt F (n - 1) Tryd.prog l (posEnc wa x) W fun e W' =>
      (e = .returned (.bool true) ∧ J (pre ++ [x]) W' ∧ EachK wa.heap.size Bx W W') ∨ (e = .returned (.bool false) ∧ Jx (pre ++ [x]) W'))
    (W : World) (hW : Below wa.heap.size wa W) (hBx : W.cell? ⟨Bx, 0, none⟩ = some (.pointer (some ⟨fb, fo, none⟩))) (h0 : J [] W) :
    CallsIn F n Tryd.prog 67 #[.func (.yield l) #[] #[], .pointer (some ⟨Bx, 0, none⟩)] W fun e W' => (∃ v, e = .returned v) ∧ ((∃ ys, posIns ys = allIns f ∧ J ys W') ∨ (∃ pre, True ∧ Jx pre W')) := by
  have hfl := lt_of_cell hfn
  have HFn := hidI hfn
  have HBS := hidI hbs
  have HY := hidI hY
  clear hfn hbs hY
  refine callsIn_of_wp Tryd.func67 rfl hF ?_ hro
  simp only [Tryd.ntmps67, List.size_toArray, List.length_cons, List.length_nil, Nat.reduceAdd, Nat.reduceSub, Array.replicate_succ, Array.replicate_zero, List.push_toArray, List.append_toArray, List.nil_append, List.cons_append]
  have f0 := (hW.cell (p := ⟨fb, fo + 3, none⟩) hfl).trans HFn.out
  have HW := hidI hW
  have HB0 := hidI hBx
  clear hW
  gi_wp2
  gi_loopw [10] (fun i wr => ∃ (m : Nat) (pre : List (InsPos wa)), m ≤ f.blocks.length ∧ i = .int .i64 m ∧ posIns pre = insTo f m 0 ∧ J pre wr ∧ EachK wa.heap.size Bx W wr) (fun i _ => f.blocks.length - (intOf i).toNat)
  case atStart => exact ⟨0, [], by omega, rfl, (insTo_zero f).symm, h0, Below.refl _ _, rfl⟩
  case round =>
    obtain ⟨m, pre, hm, rfl, hp, hJ, hK⟩ := hrel
    obtain ⟨wo, hwo⟩ : ∃ wo : World, wo = wr := ⟨_, rfl⟩
    have HWr : Hid (Below wa.heap.size wa wr) := HW.out.trans hK.1
    have cb : wr.cell? ⟨Bx, 0, none⟩ = some (.pointer (some ⟨fb, fo, none⟩)) := (World.cell?_of_block (a := ⟨Bx, 0, none⟩) hK.2).trans HB0.out
    have c0 := (HWr.out.cell (p := ⟨fb, fo + 3, none⟩) hfl).trans HFn.out
    have HK := hidI hK
    have HP := hidI hp
    clear hK hp
    by_cases hlt : m < f.blocks.length
    · obtain ⟨b3, o3, q1, c1, q2, c2, q3, c3, hp, d0, d1, d2, d3, d4, d5, _, _, _, hl2, _, _, hls, _⟩ := blkGet HBS.out (Below.refl _ _) hlt
      subst hp
      have hbb3 := lt_of_cell d0
      have e1 := (HWr.out.cell (p := ⟨b3, _, none⟩) hbb3).trans d1
      have HL := hidI hls
      have D1 := hidI d1
      clear d0 d1 d2 d3 d4 d5 hls
      gi_wp2
      subst hwo
      gi_loopw [22] (fun i wr => ∃ (j : Nat) (pre : List (InsPos wa)), j ≤ f.blocks[m].list.length ∧ i = .int .i64 j ∧ posIns pre = insTo f m j ∧ J pre wr ∧ EachK wa.heap.size Bx W wr) (fun i _ => f.blocks[m].list.length - (intOf i).toNat)
      case atStart => exact ⟨0, pre, by omega, rfl, HP.out, hJ, HK.out⟩
      case round =>
        clear HWr cb c0 HK HP e1
        obtain ⟨j, pre, hj, rfl, hp, hJ, hK⟩ := hrel
        have HWr : Hid (Below wa.heap.size wa wr) := HW.out.trans hK.1
        have cb : wr.cell? ⟨Bx, 0, none⟩ = some (.pointer (some ⟨fb, fo, none⟩)) := (World.cell?_of_block (a := ⟨Bx, 0, none⟩) hK.2).trans HB0.out
        have c0 := (HWr.out.cell (p := ⟨fb, fo + 3, none⟩) hfl).trans HFn.out
        have e1 := (HWr.out.cell (p := ⟨b3, _, none⟩) hbb3).trans D1.out
        have HK := hidI hK
        have HP := hidI hp
        clear hK hp
        by_cases hjl : j < f.blocks[m].list.length
        · obtain ⟨b4, o4, q4, c4, hp4, g0, g1, g2, g3, g4, g5, g6, g7, i1, i2, i3, i4, i5, hl4, hsr⟩ := insGet HL.out (Below.refl _ _) hjl
          subst hp4
          have hx : InsCell wa b4 (o4 + j * 8) f.blocks[m].list[j] := ⟨q4, c4, g0, g1, g2, g3, g4, g5, g6, g7, i1, i2, i3, i4, i5, hl4, hsr⟩
          have hlen : pre.length < (allIns f).length := by
            rw [← posIns_len, HP.out]
            exact insTo_len hlt hjl
          obtain ⟨y, hy1⟩ : ∃ y : InsPos wa, y.1 = ((b4, o4 + j * 8), f.blocks[m].list[j]) := ⟨⟨_, hx⟩, rfl⟩
          obtain ⟨fn, tmps, assign, body, hy, hR⟩ := HY.out pre y wr hJ hlen
          have he : posEnc wa y = #[.pointer (some ⟨b4, o4 + j * 8, none⟩)] := by unfold posEnc; rw [hy1]
          rw [he] at hy
          have HR := hidI hR
          have HY1 : Hid (y.1.2 = f.blocks[m].list[j]) := by show _ = _; rw [hy1]
          clear g0 g1 g2 g3 g4 g5 g6 g7 hsr hx hR he hy1
          gi_wp2
          refine HR.out.mono ?_
          rintro e W3 (⟨rfl, hJ3, hk3⟩ | ⟨rfl, hJx3⟩)
          · have HK3 := hidI hk3
            clear hk3
            gi_wp2
            go_roundw
            case rel => exact ⟨j + 1, _, by omega, by go_num, by rw [posIns_snoc, HP.out, HY1.out, insTo_next hlt hjl], hJ3, eachK_t HK.out HK3.out⟩
            case measure => simp [intOf]; omega
          · gi_wp2
            refine bodyPost_ret (results_none rfl _ _ _) rfl ?_
            exact ⟨⟨_, rfl⟩, .inr ⟨_, trivial, hJx3⟩⟩
        · obtain rfl : j = f.blocks[m].list.length := by omega
          gi_wp2
          go_roundw
          case rel => exact ⟨m + 1, pre, by omega, by go_num, by rw [HP.out, insTo_blk hlt], hJ, HK.out⟩
          case measure => simp [intOf]; omega
    · obtain rfl : m = f.blocks.length := by omega
      gi_wp2
      go_end0
      exact ⟨⟨_, rfl⟩, .inl ⟨pre, by rw [HP.out, insTo_all], hJ⟩⟩

set_option maxHeartbeats 1000000 in
/-- calls.Each: the address is boxed; the function value captures the box -/
theorem each_any (a : Option Addr) (w : World) :
    Calls Tryd.prog 31 #[.pointer a] w fun e w' => e = .returned (.func (.func 67) #[] #[.pointer (some ⟨w.heap.size, 0, none⟩)]) ∧ w' = w.alloc (.cells #[.pointer a] 86) := by
  go_enter Tryd.func31, Tryd.ntmps31
  go_wp2
  go_ret
  exact ⟨rfl, rfl⟩

theorem each_stops (F : Fence) (n : Nat) (hF : F.fn 67) (hro : F.round = none) (hn : 1 ≤ n) (Bx fb fo c : Nat) (q : Option Addr) (f : FunL) (wa w : World) (hwa : Below wa.heap.size wa w) (hfn : wa.cell? ⟨fb, fo + 3, none⟩ = some (.slice q f.blocks.length c)) (hbl : f.blocks.length * 96 ≤ 140737488351232) (hbs : SliceAt wa 6 (BlkR wa) q f.blocks) (hBn : wa.heap.size ≤ Bx) (hBw : Bx < w.heap.size)
    (hBx : w.cell? ⟨Bx, 0, none⟩ = some (.pointer (some ⟨fb, fo, none⟩))) :
    SeqStopsK F n Tryd.prog 67 #[.pointer (some ⟨Bx, 0, none⟩)] (posEnc wa) (EachK wa.heap.size Bx) (fun ys => posIns ys = allIns f) (fun _ => True) (allIns f).length w := fun l J Jx W hW _ _ hY h0 =>
  each1_in F n hF hro hn l Bx fb fo c q f wa hfn hbl hbs hBn J Jx hY W (hwa.trans (hW.mono hwa.size)) ((hW.cell (p := ⟨Bx, 0, none⟩) hBw).trans hBx) h0
end Go.Proofs.YtdjamkinijhjoaaDoor
namespace Go.Proofs.YtdjamkinijhjoaaDoor
open Go.RowKit Go.Shelf

theorem wpOpIn_of_wpOp {l n : Nat} {P : Program} {ops : Array Oper} {Q : Exit → Act → World → Prop} (hL : ¬ LetsOut Q) (hnd : ∀ (i : Nat) (o : Oper), ops[i]? = some o → ∀ c, o.op ≠ .defer c) {i : Nat} {K K' : Act → World → Prop} (hK : ∀ a w, K a w → K' a w) {a : Act} {w : World}
    (h : wpOp P ops Q i K a w) : wpOpIn (Fence.wide.inRound l) n P ops Q i K' a w := by
  unfold wpOp at h
  unfold wpOpIn
  cases ho : ops[i]? with
  | none =>
    rw [ho] at h
    exact hK _ _ h
  | some o =>
    rw [ho] at h
    simp only at h ⊢
    split
    · rename_i hw
      rw [if_pos hw] at h
      rcases h with h | ⟨_, hl⟩
      · unfold Oper.wp at h
        unfold Oper.wpIn
        refine ⟨fun _ _ => trivial, ?_⟩
        rw [Oper.semAt_plain _ _ _ (hnd i o ho)]
        generalize (execOp a.eval o).run P w = r at h
        cases r with
        | ok x w' =>
          cases x <;> simp only [Oper.upon] at h <;> simp only [Oper.uponIn]
          case value v => exact hK _ _ h
          case skip => exact hK _ _ h
          case defer d => exact hK _ _ h
          case enter f args =>
            refine ⟨fun e => (by simp [Fence.wide] at e), CallsIn.inRound l (callsIn_wide.2 (h.mono fun e w'' he => ?_))⟩
            cases e with
            | returned v => exact hK _ _ he
            | panicked c => exact he
            | outgrown => exact he
          case row row args =>
            refine ⟨fun e => (by simp [Fence.wide] at e), fun c cs _ => ?_⟩
            obtain ⟨v, w'', r, s⟩ := h c cs
            exact ⟨v, w'', hK _ _ r, stepsIn_wide.2 s⟩
        | halt x w' =>
          cases x <;> simp only [Oper.upon] at h <;> simp only [Oper.uponIn]
          case panic v => exact h
      · exact absurd hl hL
    · rename_i hw
      rw [if_neg hw] at h
      exact ⟨fun _ _ => trivial, hK _ _ h⟩
theorem wpAnyIn_of_wpAny {l n : Nat} {P : Program} {md : Region.Mode} {ops : Array Oper} {Q : Exit → Act → World → Prop} (hL : ¬ LetsOut Q) (hnd : ∀ (i : Nat) (o : Oper), ops[i]? = some o → ∀ c, o.op ≠ .defer c) :
    ∀ (fuel : Nat) (listed : Array Bool) (a : Act) (w : World), wpAny P md ops Q fuel listed a w → wpAnyIn (Fence.wide.inRound l) n P md ops Q fuel listed a w
  | 0, _, _, _, h => h
  | fuel + 1, _, _, _, h => ⟨h.1, fun i hi => wpOpIn_of_wpOp hL hnd (fun _ _ hh => wpAnyIn_of_wpAny hL hnd fuel _ _ _ hh) (h.2 i hi)⟩
theorem wpOp_one {P : Program} {ops : Array Oper} {Q : Exit → Act → World → Prop} {i : Nat} {o : Oper} {K : Act → World → Prop} {a : Act} {w : World} (ho : ops[i]? = some o) (hg : o.guard = none) (h : o.wp P a w K Q) : wpOp P ops Q i K a w := by
  unfold wpOp
  rw [ho]
  simp only [Region.wanted, hg]
  exact .inl h
section
variable {P : Program} {md : Region.Mode} {ops : Array Oper} {Q : Exit → Act → World → Prop} {S : World → Prop} {z : Nat}
/-- whatever order is picked from here on, and S holds behind every operation but the last one -/
def wpAnyZ (P : Program) (md : Region.Mode) (ops : Array Oper) (Q : Exit → Act → World → Prop) (S : World → Prop) (z : Nat) : Nat → Array Bool → Act → World → Prop
  | 0, listed, a, w => Region.ready md ops listed = [] ∧ Q .normal a w
  | fuel + 1, listed, a, w =>
    (Region.ready md ops listed = [] → Q .normal a w) ∧
    ∀ i ∈ Region.ready md ops listed, wpOp P ops Q i (fun a' w' => (i ≠ z → S w') ∧ wpAnyZ P md ops Q S z fuel (listed.setIfInBounds i true) a' w') a w
theorem wpAny_of_z : ∀ (fuel : Nat) (listed : Array Bool) (a : Act) (w : World), wpAnyZ P md ops Q S z fuel listed a w → wpAny P md ops Q fuel listed a w
  | 0, _, _, _, h => h
  | fuel + 1, _, _, _, h => ⟨h.1, fun i hi => wpOp_mono (fun a' w' h' => wpAny_of_z fuel _ a' w' h'.2) (h.2 i hi)⟩
theorem wpAnyZ_first {i : Nat} {oi oz : Oper} {v : Value} (hi : ops[i]? = some oi) (hz : ops[z]? = some oz) (hiz : i ≠ z) (hw : ∃ e ∈ oz.after, Region.binds md e = true ∧ e.on = i) (hsel : ∀ (j : Nat) (o : Oper) cs b, ops[j]? = some o → o.op ≠ .select cs b)
    (hQ : ∀ c a w, Q (.panic c) (a.put oi.dst v) w → Q (.panic c) a w) :
    ∀ (fuel : Nat) (listed : Array Bool) (a : Act) (w : World),
      (∀ j oj, ops[j]? = some oj → j ≠ i → listed.getD j true = false → (∀ e ∈ oj.after, Region.binds md e = true → e.on ≠ i) → oi.apart ops oj = true) →
      i ∈ Region.ready md ops listed → YieldsIf P ops S oi v a → S w →
      wpAnyZ P md ops Q S z fuel (listed.setIfInBounds i true) (a.put oi.dst v) w → wpAnyZ P md ops Q S z (fuel + 1) listed a w := by
  intro fuel
  induction fuel with
  | zero =>
    intro listed a w _ hr hy hS H
    refine ⟨fun h => (by rw [h] at hr; cases hr), fun j hj => ?_⟩
    by_cases hji : j = i
    · subst hji; exact hy.wpOp hi hS ⟨fun _ => hS, H⟩
    · have := ready_mono hj hji
      rw [H.1] at this
      cases this
  | succ fuel ih =>
    intro listed a w hfree hr hy hS H
    refine ⟨fun h => (by rw [h] at hr; cases hr), fun j hj => ?_⟩
    by_cases hji : j = i
    · subst hji; exact hy.wpOp hi hS ⟨fun _ => hS, H⟩
    · have h1 := H.2 j (ready_mono hj hji)
      obtain ⟨hjun, oj, hoj, hall⟩ := mem_ready.1 hj
      have hnot : ∀ e ∈ oj.after, Region.binds md e = true → e.on ≠ i := fun e he hb heq => by
        have h1 := hall e he hb
        have h0 := (mem_ready.1 hr).1
        rw [heq] at h1
        rcases Nat.lt_or_ge i listed.size with h' | h'
        · simp [h'] at h0 h1; rw [h0] at h1; cases h1
        · simp [Array.getElem?_eq_none h'] at h1
      have hjz : j ≠ z := fun e => by
        subst e
        rw [hoj] at hz
        cases hz
        obtain ⟨e, he, hb, hon⟩ := hw
        exact hnot e he hb hon
      have h2 := wpOp_putIf hoj (hfree j oj hoj hji hjun hnot) (fun cs b => hsel i oi cs b hi) (fun cs b => hsel j oj cs b hoj) hQ hy h1
      have hfree' : ∀ k ok, ops[k]? = some ok → k ≠ i → (listed.setIfInBounds j true).getD k true = false →
          (∀ e ∈ ok.after, Region.binds md e = true → e.on ≠ i) → oi.apart ops ok = true := fun k ok hk hki hun hno => by
        refine hfree k ok hk hki ?_ hno
        by_cases hjk : j = k
        · subst hjk; exact hjun
        · rw [getD_set_ne true hjk] at hun; exact hun
      refine wpOp_mono (fun a' w' h3 => ⟨fun _ => h3.2.1 hjz, ih (listed.setIfInBounds j true) a' w' hfree' (ready_mono hr (Ne.symm hji)) h3.1 (h3.2.1 hjz) ?_⟩) h2
      rw [Array.setIfInBounds_comm _ _ hji]
      exact h3.2.2
/-- the last operation waits for number i -/
def waitsB (md : Region.Mode) (ops : Array Oper) (z i : Nat) : Bool := decide (i ≠ z) && match ops[z]? with | some o => o.after.any fun e => Region.binds md e && e.on == i | none => false
theorem wpAnyZ_take {i : Nat} {oi : Oper} {v : Value} {fuel : Nat} {listed : Array Bool} {a : Act} {w : World} (hi : ops[i]? = some oi) (hw : waitsB md ops z i = true)
    (hs : Region.noSelect ops = true) (hf : Region.free md ops listed i = true) (hr : (Region.ready md ops listed).contains i = true)
    (hQ : ∀ c a w, Q (.panic c) (a.put oi.dst v) w → Q (.panic c) a w) (hy : YieldsIf P ops S oi v a) (hS : S w)
    (h : wpAnyZ P md ops Q S z fuel (listed.setIfInBounds i true) (a.put oi.dst v) w) : wpAnyZ P md ops Q S z (fuel + 1) listed a w := by
  unfold waitsB at hw
  rw [Bool.and_eq_true] at hw
  obtain ⟨h1, h2⟩ := hw
  cases hz : ops[z]? with
  | none => rw [hz] at h2; cases h2
  | some oz =>
    rw [hz] at h2
    simp only [Array.any_eq_true', Bool.and_eq_true, beq_iff_eq] at h2
    obtain ⟨e, he, hb, hon⟩ := h2
    exact wpAnyZ_first hi hz (of_decide_eq_true h1) ⟨e, he, hb, hon⟩ (Region.noSelect_spec hs) hQ fuel listed a w (Region.free_spec hi hf) (by simpa using hr) hy hS h
theorem wpAnyZ_all {rs : List Nat} {fuel : Nat} {listed : Array Bool} {a : Act} {w : World} (hr : Region.ready md ops listed = rs) (hne : rs ≠ [])
    (h : ∀ i ∈ rs, wpOp P ops Q i (fun a' w' => (i ≠ z → S w') ∧ wpAnyZ P md ops Q S z fuel (listed.setIfInBounds i true) a' w') a w) : wpAnyZ P md ops Q S z (fuel + 1) listed a w :=
  ⟨fun h0 => absurd (hr ▸ h0) hne, hr ▸ h⟩
theorem wpAnyZ_one {i : Nat} {o : Oper} {fuel : Nat} {listed : Array Bool} {a : Act} {w : World} (hr : Region.ready md ops listed = [i]) (ho : ops[i]? = some o) (hg : o.guard = none)
    (h : o.wp P a w (fun a' w' => (i ≠ z → S w') ∧ wpAnyZ P md ops Q S z fuel (listed.setIfInBounds i true) a' w') Q) : wpAnyZ P md ops Q S z (fuel + 1) listed a w :=
  wpAnyZ_all hr (by simp) fun j hj => by
    obtain rfl : j = i := by simpa using hj
    exact wpOp_one ho hg h
theorem wpAnyZ_done {listed : Array Bool} {a : Act} {w : World} (hr : Region.ready md ops listed = []) (h : Q .normal a w) :
    ∀ fuel, wpAnyZ P md ops Q S z fuel listed a w
  | 0 => ⟨hr, h⟩
  | _ + 1 => ⟨fun _ => h, by rw [hr]; simp⟩
end

/-- no operation of a region is a defer statement -/
def noDefer (ops : Array Oper) : Bool := ops.toList.all fun o => match o.op with | .defer _ => false | _ => true
theorem noDefer_spec {ops : Array Oper} (h : noDefer ops = true) : ∀ (i : Nat) (o : Oper), ops[i]? = some o → ∀ c, o.op ≠ .defer c := by
  intro i o ho c hc
  have hm : o ∈ ops.toList := by
    rw [Array.mem_toList_iff]
    exact Array.mem_of_getElem? ho
  have := List.all_eq_true.1 h o hm
  rw [hc] at this
  cases this
/-- a region that draws its order, in a round: whatever S says of the world's cells -/
theorem wpIn_region_round {l n : Nat} {P : Program} {id : Nat} {ops : Array Oper} {Q : Exit → Act → World → Prop} {S : World → Prop} {a : Act} {w : World} (hm : P.follows .mixedOrders = true) (hL : ¬ LetsOut Q) (hnd : noDefer ops = true)
    (z : Nat) (h : wpAnyZ P .any ops Q S z ops.size (Array.replicate ops.size false) a w.drew) : (Code.region id ops true).wpIn (Fence.wide.inRound l) n P Q a w :=
  wpIn_region_any hm (wpAnyIn_of_wpAny hL (noDefer_spec hnd) _ _ _ _ (wpAny_of_z _ _ _ _ h))
/-- the same outside of rounds -/
theorem wp_region_z {P : Program} {id : Nat} {ops : Array Oper} {Q : Exit → Act → World → Prop} {S : World → Prop} {a : Act} {w : World} (hm : P.follows .mixedOrders = true)
    (z : Nat) (h : wpAnyZ P .any ops Q S z ops.size (Array.replicate ops.size false) a w.drew) : (Code.region id ops true).wp P Q a w :=
  wp_region_any hm (wpAny_of_z _ _ _ _ h)
/-- the same post, no panic let through -/
def calm (Q : Exit → Act → World → Prop) : Exit → Act → World → Prop
  | .panic _, _, _ => False
  | e, a, w => Q e a w
theorem wp_region_calm {P : Program} {id : Nat} {ops : Array Oper} {Q : Exit → Act → World → Prop} {S : World → Prop} {a : Act} {w : World} (hm : P.follows .mixedOrders = true)
    (z : Nat) (h : wpAnyZ P .any ops (calm Q) S z ops.size (Array.replicate ops.size false) a w.drew) : (Code.region id ops true).wp P Q a w :=
  Code.wp_mono (Q := calm Q) (fun e a w h => by cases e <;> first | exact h | exact h.elim) (wp_region_z hm z h)
theorem wp_of_run {P : Program} {o : Oper} {a : Act} {w w' : World} {v : Value} {K : Act → World → Prop} {Q : Exit → Act → World → Prop} (h : (execOp a.eval o).run P w = .ok (.value v) w') (hk : K (a.put o.dst v) w') : o.wp P a w K Q := by
  unfold Oper.wp
  rw [h]
  exact hk
theorem wp_of_skip {P : Program} {o : Oper} {a : Act} {w w' : World} {K : Act → World → Prop} {Q : Exit → Act → World → Prop} (h : (execOp a.eval o).run P w = .ok .skip w') (hk : K (a.put o.dst undef) w') : o.wp P a w K Q := by
  unfold Oper.wp
  rw [h]
  exact hk
theorem wpAnyZ_skip {P : Program} {md : Region.Mode} {ops : Array Oper} {Q : Exit → Act → World → Prop} {S : World → Prop} {z i : Nat} {o : Oper} {fuel : Nat} {listed : Array Bool} {a : Act} {w : World} (w' : World) (hr : Region.ready md ops listed = [i]) (ho : ops[i]? = some o) (hg : o.guard = none)
    (h : (execOp a.eval o).run P w = .ok .skip w') (hS : i ≠ z → S w') (hk : wpAnyZ P md ops Q S z fuel (listed.setIfInBounds i true) (a.put o.dst undef) w') : wpAnyZ P md ops Q S z (fuel + 1) listed a w :=
  wpAnyZ_one hr ho hg (wp_of_skip h ⟨hS, hk⟩)
theorem wpAnyZ_call {P : Program} {md : Region.Mode} {ops : Array Oper} {Q : Exit → Act → World → Prop} {S : World → Prop} {z i : Nat} {o : Oper} {fuel : Nat} {listed : Array Bool} {a : Act} {w : World} {f : FuncId} {args : Array Value} {R : Ending → World → Prop} (hr : Region.ready md ops listed = [i]) (ho : ops[i]? = some o) (hg : o.guard = none)
    (h : (execOp a.eval o).run P w = .ok (.enter f args) w) (hc : Calls P f args w R) (hk : ∀ e w', R e w' → ∃ v, e = .returned v ∧ (i ≠ z → S w') ∧ wpAnyZ P md ops Q S z fuel (listed.setIfInBounds i true) (a.put o.dst v) w') : wpAnyZ P md ops Q S z (fuel + 1) listed a w := by
  refine wpAnyZ_one hr ho hg ?_
  unfold Oper.wp
  rw [h]
  refine hc.mono fun e w' he => ?_
  obtain ⟨v, rfl, h1, h2⟩ := hk e w' he
  exact ⟨h1, h2⟩
/-- append in a region that draws its order -/
theorem wp_append_at {P : Program} (w : World) {o : Oper} {a : Act} {K : Act → World → Prop} {Q : Exit → Act → World → Prop} (s x : Operand) (t : TypeId)
    (ho : o.op = .call { callee := .builtin .append, args := #[s, x], argTypes := #[t, t] })
    (base : Nat) (e : TypeId) (i : TypeInfo) (z : Value) (size bytes : Nat) (ht : P.underlying t = some (.slice e)) (hi : P.info? e = some i) (hz : i.zero = some z)
    (hsize : i.size = size) (hby : i.bytes = bytes) (hzs : z.cells.size = size) (hsz : 0 < size)
    (v : Value) (n : Nat) (xs : List Value) (hs : a.eval s = v) (hown : w.ownsRow base e size v n xs)
    (ad : Addr) (m c : Nat) (news : List Value) (hx : a.eval x = .slice (some ad) m c) (hl : news.length = m * size) (hnews : ∀ j u, news[j]? = some u → w.cell? (ad.add j) = some u) (h1 : ∀ u ∈ news, u.oneCell' = true)
    (h63 : n + m ≤ maxLen) (hbytes : (n + m) * bytes ≤ 140737488355328) (hbase : base ≤ w.heap.size)
    (h : ∀ v' w', w'.ownsRow base e size v' (n + m) (xs ++ news) → w.grownBy w' v.ownBlock → (v'.ownBlock = v.ownBlock ∨ v'.ownBlock = some w.heap.size) → K (a.put o.dst v') w') : o.wp P a w K Q := by
  obtain ⟨v', w', hr, h2, h3, _, h5⟩ := run_append_own_at (P := P) w base t o.type e i z size bytes ht hi hz hsize hby hzs hsz v n xs hown ad m c news hl hnews h1 h63 hbytes hbase
  unfold Oper.wp execOp
  simp only [ho, resolve, invoke, builtin, Sem.run_bind, Sem.run_pure, Result.andThen_ok, List.map_toArray, List.map_cons, List.map_nil, hs, hx, hr]
  exact h v' w' h2 h3 h5
end Go.Proofs.YtdjamkinijhjoaaDoor
namespace Go.Proofs.YtdjamkinijhjoaaDoor
open Go.RowKit Go.Shelf

/-- block T is a table of n rows of numbers, each in its own memory from block B on -/
structure RowsT (w : World) (B T n : Nat) (ts ti : TypeId) (f : Nat → Value) (rows : Nat → List Int) : Prop where
  tab : w.rowIs T ts n f
  row : ∀ j, j < n → w.ownsRow B ti 1 (f j) (rows j).length ((rows j).map (.int .i64))
  two : ∀ j k, j < n → k < n → j ≠ k → (f j).ownBlock = none ∨ (f j).ownBlock ≠ (f k).ownBlock
  low : T < B

theorem RowsT.made (w : World) (n B : Nat) (ts ti : TypeId) (hB : w.heap.size < B) : RowsT (w.alloc (.cells (madeCells #[.slice none 0 0] n) ts)) B w.heap.size n ts ti (fun _ => .slice none 0 0) (fun _ => []) :=
  ⟨World.rowIs_made w _ n ts, fun _ _ => World.ownsRow_nil _ _ _ _, fun _ _ _ _ _ => .inl rfl, hB⟩
theorem RowsT.below {w w' : World} {B T n : Nat} {ts ti : TypeId} {f : Nat → Value} {rows : Nat → List Int} (h : RowsT w B T n ts ti f rows) (hb : Below w.heap.size w w') : RowsT w' B T n ts ti f rows :=
  ⟨h.tab.of_block (hb.block T h.tab.lt), fun j hj => ownsRow_below' (h.row j hj) hb, h.two, h.low⟩
theorem RowsT.congr {w : World} {B T n : Nat} {ts ti : TypeId} {f : Nat → Value} {rows rows' : Nat → List Int} (h : RowsT w B T n ts ti f rows) (e : ∀ j, j < n → rows j = rows' j) : RowsT w B T n ts ti f rows' :=
  ⟨h.tab, fun j hj => by rw [← e j hj]; exact h.row j hj, h.two, h.low⟩
theorem RowsT.grown {w w' : World} {B T n : Nat} {ts ti : TypeId} {f : Nat → Value} {rows : Nat → List Int} {r : Option Nat} (h : RowsT w B T n ts ti f rows) (hg : w.grownBy w' r) (hr : r = none ∨ (r ≠ some T ∧ ∀ j, j < n → (f j).ownBlock = none ∨ (f j).ownBlock ≠ r)) : RowsT w' B T n ts ti f rows := by
  rcases hr with rfl | ⟨h1, h2⟩
  · exact ⟨h.tab.of_block (hg.block T h.tab.lt (by simp)), fun j hj => (h.row j hj).kept hg (by cases (f j).ownBlock with | none => exact .inl rfl | some k => exact .inr (by simp)), h.two, h.low⟩
  · exact ⟨h.tab.of_block (hg.block T h.tab.lt (fun e => h1 e.symm)), fun j hj => (h.row j hj).kept hg (h2 j hj), h.two, h.low⟩

/-- row t is another one: its slice v' lies in the same block or in a new one; the table holds v' -/
theorem RowsT.turn {w w' : World} {B T n : Nat} {ts ti : TypeId} {f : Nat → Value} {rows : Nat → List Int} {t : Nat} {v' : Value} {xs : List Int} (h : RowsT w B T n ts ti f rows) (ht : t < n)
    (htab : w'.rowIs T ts n (fun j => if j = t then v' else f j)) (hown : w'.ownsRow B ti 1 v' xs.length (xs.map (.int .i64)))
    (hblk : ∀ k, k < w.heap.size → k ≠ T → some k ≠ (f t).ownBlock → w'.heap[k]? = w.heap[k]?) (_hs : w.heap.size ≤ w'.heap.size)
    (hv : v'.ownBlock = (f t).ownBlock ∨ ∃ k, v'.ownBlock = some k ∧ w.heap.size ≤ k) :
    RowsT w' B T n ts ti (fun j => if j = t then v' else f j) (fun j => if j = t then xs else rows j) := by
  have hlow : ∀ j, j < n → ∀ k, (f j).ownBlock = some k → B ≤ k ∧ k < w.heap.size := fun j hj k hk => (h.row j hj).lt k hk
  have keep : ∀ j, j < n → j ≠ t → w'.ownsRow B ti 1 (f j) (rows j).length ((rows j).map (.int .i64)) := fun j hj hjt => by
    have ho := h.row j hj
    refine ⟨ho.1, ?_⟩
    rcases ho.2 with hn | ⟨g, cap, cur, hfg, hb, hgg, rest⟩
    · exact .inl hn
    · have hob : (f j).ownBlock = some g := by rw [hfg]; rfl
      refine .inr ⟨g, cap, cur, hfg, hb, ?_, rest⟩
      rw [hblk g (Array.getElem?_eq_some_iff.1 hgg).1 (by have := h.low; omega) (fun e => ?_)]
      · exact hgg
      · rcases h.two j t hj ht hjt with g1 | g1
        · rw [hob] at g1; cases g1
        · exact g1 (by rw [hob, e])
  refine ⟨htab, fun j hj => ?_, fun j k hj hk hjk => ?_, h.low⟩
  · by_cases hjt : j = t
    · simp only [if_pos hjt]; exact hown
    · simp only [if_neg hjt]; exact keep j hj hjt
  · show (if j = t then v' else f j).ownBlock = none ∨ (if j = t then v' else f j).ownBlock ≠ (if k = t then v' else f k).ownBlock
    by_cases hjt : j = t
    · have hkt : k ≠ t := fun e => hjk (hjt.trans e.symm)
      rw [if_pos hjt, if_neg hkt]
      rcases hv with e | ⟨q, e, hq⟩
      · rw [e]; exact h.two t k ht hk (fun e => hkt e.symm)
      · refine .inr (fun g => ?_)
        have := (hlow k hk _ (g.symm.trans e)).2
        omega
    · rw [if_neg hjt]
      by_cases hkt : k = t
      · rw [if_pos hkt]
        rcases hv with e | ⟨q, e, hq⟩
        · rw [e]; exact h.two j t hj ht hjt
        · cases hb : (f j).ownBlock with
          | none => exact .inl rfl
          | some p => exact .inr (fun g => by have := (hlow j hj p hb).2; rw [e] at g; injection g with g; omega)
      · rw [if_neg hkt]; exact h.two j k hj hk hjk
theorem RowsT.cell {w : World} {B T n : Nat} {ts ti : TypeId} {f : Nat → Value} {rows : Nat → List Int} (h : RowsT w B T n ts ti f rows) {t : Nat} (ht : t < n) : ∃ q c, f t = .slice q (rows t).length c := by
  obtain ⟨p, c, hp⟩ := own_slice (h.row t ht)
  exact ⟨p, c, hp⟩
/-- the table reads as a list of rows -/
theorem RowsT.reads {w : World} {B T n : Nat} {ts ti : TypeId} {f : Nat → Value} {rows : Nat → List Int} (h : RowsT w B T n ts ti f rows) (hI : ∀ j, j < n → (rows j).length ≤ 140737488355328 ∧ ∀ x ∈ rows j, I64 x) : SliceAt w 1 (IntsR w) (some ⟨T, 0, none⟩) ((List.range n).map rows) := by
  refine .inr ⟨T, 0, rfl, fun i hi => ?_⟩
  have hi2 : i < n := by simpa using hi
  obtain ⟨hl, hx⟩ := hI i hi2
  obtain ⟨q, d, hq, hs⟩ := own_ints rfl (h.row i hi2) hx
  refine ⟨[.slice q (rows i).length d], rfl, fun j hj => ?_, ?_⟩
  · obtain rfl : j = 0 := by omega
    simp only [Nat.zero_add, Nat.mul_one, Nat.add_zero, List.getElem?_cons_zero]
    rw [h.tab.cell hi2, hq]
  · have e : ((List.range n).map rows)[i] = rows i := by simp
    rw [e]
    exact ⟨q, d, rfl, hl, hs⟩

/-- the marks that loops over iterators leave on a function under way -/
def marks (Ds : List Nat) : List Deferred := Ds.map fun D => { target := .collected D, args := #[] }
theorem leaves_marks {F : Fence} {n : Nat} {P : Program} {fn : Func} {tmps : Array Value} {R : Ending → World → Prop} (B : Nat) : ∀ (Ds : List Nat) (w : World), Ds.Nodup → (∀ D ∈ Ds, B ≤ D ∧ w.heap[D]? = some (.deferred (some []))) →
    (∀ w', w'.os = w.os → w'.tape = w.tape → w'.output = w.output → w.heap.size ≤ w'.heap.size → (∀ k, k ∉ Ds → w'.heap[k]? = w.heap[k]?) → ∃ v, (results fn tmps).run P w' = .ok v w' ∧ R (.returned v) w') → LeavesInM F n P fn tmps R (marks Ds) .returning w
  | [], w, _, _, h => h w rfl rfl rfl (Nat.le_refl _) (fun _ _ => rfl)
  | D :: Ds, w, hn, hD, h => by
    obtain ⟨hn1, hn2⟩ := List.nodup_cons.1 hn
    refine ⟨by simp, .inl ⟨D, _, rfl, run_takeDeferred (hD D List.mem_cons_self).2, ?_⟩⟩
    refine leaves_marks B Ds _ hn2 (fun E hE => ?_) (fun w' h1 h2 h3 h4 h5 => ?_)
    · obtain ⟨a, b⟩ := hD E (List.mem_cons_of_mem _ hE)
      exact ⟨a, (World.putObj_heap_other (fun e => hn1 (by rw [← e]; exact hE))).trans b⟩
    · refine h w' h1 h2 h3 (by simpa using h4) (fun k hk => ?_)
      rw [h5 k (fun hh => hk (List.mem_cons_of_mem _ hh))]
      exact World.putObj_heap_other (fun e => hk (by rw [e]; exact List.mem_cons_self))
end Go.Proofs.YtdjamkinijhjoaaDoor
