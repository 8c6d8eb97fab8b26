/-
  The contract of calls.Each: an iterator over the instructions of a function.
-/
import Derived.Test.YtlalmbklhmpngaaDoorChkS
import Derived.RangeFuncNested
import Derived.RangeFuncBound
import Derived.RangeFuncCalls
import Derived.RangeFuncLeaves
import Derived.RangeFuncBox
import Derived.Shelf.Abstract
import Derived.Shelf.RegionOpen
import Derived.OwnWalkIn
import Derived.TacticsInMore
import Derived.LoopNIn
import Derived.LoopIn
import Derived.WalkKit
import Derived.WalkSpells
import Derived.WalkLawsBesides
namespace Go.Proofs.YtlalmbklhmpngaaDoor
open Go.RowKit Go.Shelf
attribute [local go_sem] Oper.semAt_some

/-- the eight cells of an instruction lie at a place -/
def InsCell (w : World) (b o : Nat) (x : InsL) : Prop :=
  ∃ q c, w.cell? ⟨b, o, none⟩ = some (.int .i64 x.op) ∧ w.cell? ⟨b, o + 1, none⟩ = some (.int .i64 x.dst) ∧ w.cell? ⟨b, o + 2, none⟩ = some (.bool x.ar) ∧ w.cell? ⟨b, o + 3, none⟩ = some (.int .i64 x.an) ∧ w.cell? ⟨b, o + 4, none⟩ = some (.bool x.br) ∧ w.cell? ⟨b, o + 5, none⟩ = some (.int .i64 x.bn) ∧ w.cell? ⟨b, o + 6, none⟩ = some (.int .i64 x.fn) ∧ w.cell? ⟨b, o + 7, none⟩ = some (.slice q x.args.length c) ∧ I64 x.op ∧ I64 x.dst ∧ I64 x.an ∧ I64 x.bn ∧ I64 x.fn ∧ x.args.length * 16 ≤ 140737488351232 ∧ SliceAt w 2 ValR q x.args
/-- an instruction and its place -/
abbrev InsPos (w : World) := { y : (Nat × Nat) × InsL // InsCell w y.1.1 y.1.2 y.2 }
def posEnc (w : World) (y : InsPos w) : Array Value := #[.pointer (some ⟨y.1.1.1, y.1.1.2, none⟩)]
/-- all instructions of a function, in the order of the text -/
def allIns (f : FunL) : List InsL := f.blocks.flatMap fun b => b.list
def posIns {w : World} (ys : List (InsPos w)) : List InsL := ys.map fun y => y.1.2
theorem posIns_snoc {w : World} (ys : List (InsPos w)) (y : InsPos w) : posIns (ys ++ [y]) = posIns ys ++ [y.1.2] := by simp [posIns]
theorem posIns_len {w : World} (ys : List (InsPos w)) : (posIns ys).length = ys.length := by simp [posIns]
/-- what a round keeps: what lay below n₀, and the box -/
def EachK (n₀ Bx : Nat) (W W' : World) : Prop := Below n₀ W W' ∧ W'.heap[Bx]? = W.heap[Bx]?
theorem eachK_t {n₀ Bx : Nat} {A B C : World} (h : EachK n₀ Bx A B) (k : EachK n₀ Bx B C) : EachK n₀ Bx A C := ⟨h.1.trans k.1, k.2.trans h.2⟩
theorem eachK_b {n₀ Bx : Nat} {w : World} (hn : n₀ ≤ w.heap.size) (hB : Bx < w.heap.size) (W : World) (l : Nat) (o o' : Obj) (hl : w.heap.size ≤ l) (h : W.heap[l]? = some o) (ho : o.isCells = false) (hw : o.isWalk = false) : EachK n₀ Bx W (W.putObj l o') :=
  ⟨belowK_b hn W l o o' hl h ho hw, World.putObj_heap_other (by omega)⟩
/-- the instructions ahead of instruction j of block m -/
def insTo (f : FunL) (m j : Nat) : List InsL := (f.blocks.take m).flatMap (fun b => b.list) ++ ((f.blocks[m]?.map fun b => b.list.take j).getD [])
theorem insTo_zero (f : FunL) : insTo f 0 0 = [] := by
  unfold insTo
  cases f.blocks[0]? <;> simp
theorem insTo_next {f : FunL} {m j : Nat} (hm : m < f.blocks.length) (hj : j < f.blocks[m].list.length) : insTo f m (j + 1) = insTo f m j ++ [f.blocks[m].list[j]] := by
  unfold insTo
  rw [List.getElem?_eq_getElem hm]
  simp only [Option.map_some, Option.getD_some, List.take_succ_eq_append_getElem hj, List.append_assoc]
theorem insTo_blk {f : FunL} {m : Nat} (hm : m < f.blocks.length) : insTo f m f.blocks[m].list.length = insTo f (m + 1) 0 := by
  unfold insTo
  have e : (f.blocks.take (m + 1)).flatMap (fun b => b.list) = (f.blocks.take m).flatMap (fun b => b.list) ++ f.blocks[m].list := by
    rw [List.take_succ_eq_append_getElem hm, List.flatMap_append]
    simp
  rw [List.getElem?_eq_getElem hm, e]
  cases f.blocks[m + 1]? <;> simp
theorem insTo_all (f : FunL) : insTo f f.blocks.length 0 = allIns f := by
  unfold insTo allIns
  rw [List.getElem?_eq_none (Nat.le_refl _), List.take_length]
  simp
theorem insTo_len {f : FunL} {m j : Nat} (hm : m < f.blocks.length) (hj : j < f.blocks[m].list.length) : (insTo f m j).length < (allIns f).length := by
  have h1 : allIns f = insTo f m j ++ (f.blocks[m].list.drop j ++ (f.blocks.drop (m + 1)).flatMap fun b => b.list) := by
    unfold allIns insTo
    rw [List.getElem?_eq_getElem hm]
    simp only [Option.map_some, Option.getD_some]
    conv => lhs; rw [← List.take_append_drop m f.blocks, List.drop_eq_getElem_cons hm]
    rw [List.flatMap_append, List.flatMap_cons, List.append_assoc, ← List.append_assoc (f.blocks[m].list.take j), List.take_append_drop]
  rw [h1, List.length_append, List.length_append, List.length_drop]
  omega

set_option maxRecDepth 100000 in
set_option maxHeartbeats 2000000 in
theorem each1_in (F : Fence) (n : Nat) (hF : F.fn 81) (hro : F.round = none) (hn : 1 ≤ n) (l Bx fb fo c : Nat) (q : Option Addr) (f : FunL) (wa : World) (hfn : wa.cell? ⟨fb, fo + 3, none⟩ = some (.slice q f.blocks.length c)) (hbl : f.blocks.length * 96 ≤ 140737488351232) (hbs : SliceAt wa 6 (BlkR wa) q f.blocks) (_hBn : wa.heap.size ≤ Bx)
    (J Jx : List (InsPos wa) → World → Prop)
    (hY : ∀ pre x W, J pre W → pre.length < (allIns f).length → YieldAt F (n - 1) Tryd.prog l (posEnc wa x) W fun e W' =>
      (e = .returned (.bool true) ∧ J (pre ++ [x]) W' ∧ EachK wa.heap.size Bx W W') ∨ (e = .returned (.bool false) ∧ Jx (pre ++ [x]) W'))
    (W : World) (hW : Below wa.heap.size wa W) (hBx : W.cell? ⟨Bx, 0, none⟩ = some (.pointer (some ⟨fb, fo, none⟩))) (h0 : J [] W) :
    CallsIn F n Tryd.prog 81 #[.func (.yield l) #[] #[], .pointer (some ⟨Bx, 0, none⟩)] W fun e W' => (∃ v, e = .returned v) ∧ ((∃ ys, posIns ys = allIns f ∧ J ys W') ∨ (∃ pre, True ∧ Jx pre W')) := by
  have hfl := lt_of_cell hfn
  have HFn := hidI hfn
  have HBS := hidI hbs
  have HY := hidI hY
  clear hfn hbs hY
  refine callsIn_of_wp Tryd.func81 rfl hF ?_ hro
  simp only [Tryd.ntmps81, List.size_toArray, List.length_cons, List.length_nil, Nat.reduceAdd, Nat.reduceSub, Array.replicate_succ, Array.replicate_zero, List.push_toArray, List.append_toArray, List.nil_append, List.cons_append]
  have f0 := (hW.cell (p := ⟨fb, fo + 3, none⟩) hfl).trans HFn.out
  have HW := hidI hW
  have HB0 := hidI hBx
  clear hW
  gi_wp2
  gi_loopw [10] (fun i wr => ∃ (m : Nat) (pre : List (InsPos wa)), m ≤ f.blocks.length ∧ i = .int .i64 m ∧ posIns pre = insTo f m 0 ∧ J pre wr ∧ EachK wa.heap.size Bx W wr) (fun i _ => f.blocks.length - (intOf i).toNat)
  case atStart => exact ⟨0, [], by omega, rfl, (insTo_zero f).symm, h0, Below.refl _ _, rfl⟩
  case round =>
    obtain ⟨m, pre, hm, rfl, hp, hJ, hK⟩ := hrel
    obtain ⟨wo, hwo⟩ : ∃ wo : World, wo = wr := ⟨_, rfl⟩
    have HWr : Hid (Below wa.heap.size wa wr) := HW.out.trans hK.1
    have cb : wr.cell? ⟨Bx, 0, none⟩ = some (.pointer (some ⟨fb, fo, none⟩)) := (World.cell?_of_block (a := ⟨Bx, 0, none⟩) hK.2).trans HB0.out
    have c0 := (HWr.out.cell (p := ⟨fb, fo + 3, none⟩) hfl).trans HFn.out
    have HK := hidI hK
    have HP := hidI hp
    clear hK hp
    by_cases hlt : m < f.blocks.length
    · obtain ⟨b3, o3, q1, c1, q2, c2, q3, c3, hp, d0, d1, d2, d3, d4, d5, _, _, _, hl2, _, _, hls, _⟩ := blkGet HBS.out (Below.refl _ _) hlt
      subst hp
      have hbb3 := lt_of_cell d0
      have e1 := (HWr.out.cell (p := ⟨b3, _, none⟩) hbb3).trans d1
      have HL := hidI hls
      have D1 := hidI d1
      clear d0 d1 d2 d3 d4 d5 hls
      gi_wp2
      subst hwo
      gi_loopw [22] (fun i wr => ∃ (j : Nat) (pre : List (InsPos wa)), j ≤ f.blocks[m].list.length ∧ i = .int .i64 j ∧ posIns pre = insTo f m j ∧ J pre wr ∧ EachK wa.heap.size Bx W wr) (fun i _ => f.blocks[m].list.length - (intOf i).toNat)
      case atStart => exact ⟨0, pre, by omega, rfl, HP.out, hJ, HK.out⟩
      case round =>
        clear HWr cb c0 HK HP e1
        obtain ⟨j, pre, hj, rfl, hp, hJ, hK⟩ := hrel
        have HWr : Hid (Below wa.heap.size wa wr) := HW.out.trans hK.1
        have cb : wr.cell? ⟨Bx, 0, none⟩ = some (.pointer (some ⟨fb, fo, none⟩)) := (World.cell?_of_block (a := ⟨Bx, 0, none⟩) hK.2).trans HB0.out
        have c0 := (HWr.out.cell (p := ⟨fb, fo + 3, none⟩) hfl).trans HFn.out
        have e1 := (HWr.out.cell (p := ⟨b3, _, none⟩) hbb3).trans D1.out
        have HK := hidI hK
        have HP := hidI hp
        clear hK hp
        by_cases hjl : j < f.blocks[m].list.length
        · obtain ⟨b4, o4, q4, c4, hp4, g0, g1, g2, g3, g4, g5, g6, g7, i1, i2, i3, i4, i5, hl4, hsr⟩ := insGet HL.out (Below.refl _ _) hjl
          subst hp4
          have hx : InsCell wa b4 (o4 + j * 8) f.blocks[m].list[j] := ⟨q4, c4, g0, g1, g2, g3, g4, g5, g6, g7, i1, i2, i3, i4, i5, hl4, hsr⟩
          have hlen : pre.length < (allIns f).length := by
            rw [← posIns_len, HP.out]
            exact insTo_len hlt hjl
          obtain ⟨y, hy1⟩ : ∃ y : InsPos wa, y.1 = ((b4, o4 + j * 8), f.blocks[m].list[j]) := ⟨⟨_, hx⟩, rfl⟩
          obtain ⟨fn, tmps, assign, body, hy, hR⟩ := HY.out pre y wr hJ hlen
          have he : posEnc wa y = #[.pointer (some ⟨b4, o4 + j * 8, none⟩)] := by unfold posEnc; rw [hy1]
          rw [he] at hy
          have HR := hidI hR
          have HY1 : Hid (y.1.2 = f.blocks[m].list[j]) := by show _ = _; rw [hy1]
          clear g0 g1 g2 g3 g4 g5 g6 g7 hsr hx hR he hy1
          gi_wp2
          refine HR.out.mono ?_
          rintro e W3 (⟨rfl, hJ3, hk3⟩ | ⟨rfl, hJx3⟩)
          · have HK3 := hidI hk3
            clear hk3
            gi_wp2
            go_roundw
            case rel => exact ⟨j + 1, _, by omega, by go_num, by rw [posIns_snoc, HP.out, HY1.out, insTo_next hlt hjl], hJ3, eachK_t HK.out HK3.out⟩
            case measure => simp [intOf]; omega
          · gi_wp2
            refine bodyPost_ret (results_none rfl _ _ _) rfl ?_
            exact ⟨⟨_, rfl⟩, .inr ⟨_, trivial, hJx3⟩⟩
        · obtain rfl : j = f.blocks[m].list.length := by omega
          gi_wp2
          go_roundw
          case rel => exact ⟨m + 1, pre, by omega, by go_num, by rw [HP.out, insTo_blk hlt], hJ, HK.out⟩
          case measure => simp [intOf]; omega
    · obtain rfl : m = f.blocks.length := by omega
      gi_wp2
      go_end0
      exact ⟨⟨_, rfl⟩, .inl ⟨pre, by rw [HP.out, insTo_all], hJ⟩⟩

set_option maxHeartbeats 1000000 in
/-- calls.Each: the address is boxed; the function value captures the box -/
theorem each_any (a : Option Addr) (w : World) :
    Calls Tryd.prog 47 #[.pointer a] w fun e w' => e = .returned (.func (.func 81) #[] #[.pointer (some ⟨w.heap.size, 0, none⟩)]) ∧ w' = w.alloc (.cells #[.pointer a] 95) := by
  go_enter Tryd.func47, Tryd.ntmps47
  go_wp2
  go_ret
  exact ⟨rfl, rfl⟩

theorem each_stops (F : Fence) (n : Nat) (hF : F.fn 81) (hro : F.round = none) (hn : 1 ≤ n) (Bx fb fo c : Nat) (q : Option Addr) (f : FunL) (wa w : World) (hwa : Below wa.heap.size wa w) (hfn : wa.cell? ⟨fb, fo + 3, none⟩ = some (.slice q f.blocks.length c)) (hbl : f.blocks.length * 96 ≤ 140737488351232) (hbs : SliceAt wa 6 (BlkR wa) q f.blocks) (hBn : wa.heap.size ≤ Bx) (hBw : Bx < w.heap.size)
    (hBx : w.cell? ⟨Bx, 0, none⟩ = some (.pointer (some ⟨fb, fo, none⟩))) :
    SeqStopsK F n Tryd.prog 81 #[.pointer (some ⟨Bx, 0, none⟩)] (posEnc wa) (EachK wa.heap.size Bx) (fun ys => posIns ys = allIns f) (fun _ => True) (allIns f).length w := fun l J Jx W hW _ _ hY h0 =>
  each1_in F n hF hro hn l Bx fb fo c q f wa hfn hbl hbs hBn J Jx hY W (hwa.trans (hW.mono hwa.size)) ((hW.cell (p := ⟨Bx, 0, none⟩) hBw).trans hBx) h0
end Go.Proofs.YtlalmbklhmpngaaDoor
