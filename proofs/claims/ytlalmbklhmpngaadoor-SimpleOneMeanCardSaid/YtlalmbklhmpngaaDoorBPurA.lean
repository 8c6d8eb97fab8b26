/-
  The contracts of pure.words, pure.May, turneryref5.WordsOf, turneryref5.PureEnds, turnerysame.Fault.
The contract of turneryref5.PureEnds.
The contract of pure.Ends.
-/
import Derived.Test.YtlalmbklhmpngaaDoorChkS
import Derived.Deep.RegionHeld3
import Derived.WalkKit
import Derived.WalkSpells
import Derived.WalkLawsBesides
import Derived.BigQuiet
import Derived.Deep.QuietTactic
namespace Go.Proofs.YtlalmbklhmpngaaDoor
open Go.RowKit

def mayB (op an bn : Int) (ar br : Bool) (words : Int) : Bool :=
  if op = 5 ∨ op = 6 then br || bn == 0
  else if op = 18 ∨ op = 19 then ar || decide (an < 0) || decide (words ≤ an)
  else false

set_option maxHeartbeats 1000000 in
theorem words_any (u : UniL) (gp fp : Option Addr) (fl gc fc : Nat) (w : World) (hgl : u.globals.length * 48 ≤ 140737488351232) (hG : SliceAt w 3 (GloR w) gp u.globals) (hw : ∀ k, k ≤ u.globals.length → 0 ≤ wordsTo u k ∧ wordsTo u k ≤ 200) :
    Calls Tryd.prog 88 #[.agg #[.slice gp u.globals.length gc, .slice fp fl fc]] w fun e w' => e = .returned (.int .i64 (wordsU u)) ∧ Below w.heap.size w w' := by
  have HG := hidI hG
  have HW := hidI hw
  clear hG hw
  go_enter Tryd.func88, Tryd.ntmps88
  go_wp2
  go_loopw [3, 9] (fun n i wr => ∃ k : Nat, k ≤ u.globals.length ∧ i = .int .i64 k ∧ n = .int .i64 (wordsTo u k) ∧ Below w.heap.size w wr) (fun _ i _ => u.globals.length - (intOf i).toNat)
  case atStart => exact ⟨0, by omega, rfl, rfl, by repeat (first | with_reducible exact Below.refl _ _ | with_reducible exact HB3.out | with_reducible refine Below.drew ?_ | with_reducible refine below_drewN ?_ _ | with_reducible refine Below.setCell ?_ ?_ _ | with_reducible refine Below.alloc ?_ ?_ _ | with_reducible exact HB2.out | with_reducible exact HB1.out | with_reducible refine Below.trans ?_ (Below.mono hb3 ?_) | with_reducible refine Below.trans ?_ (Below.mono hb5 ?_) | with_reducible refine Below.trans ?_ (Below.mono hb4 ?_) | omega | (simp; omega) | simp)⟩
  case round =>
    obtain ⟨k, hk, rfl, rfl, hb⟩ := hrel
    have HB := hidI hb
    have h0 := HW.out k hk
    by_cases hlt : k < u.globals.length
    · obtain ⟨b2, o2, q, c, hp, e0, e1, e2, hns, hgs, hil, _⟩ := gloGet HG.out hb hlt
      have h1 := HW.out (k + 1) (by omega)
      rw [wordsTo_succ hlt] at h1
      have HS := hidI (wordsTo_succ hlt)
      have hgs1 := hgs.1
      have hgs2 := hgs.2
      subst hp
      clear hb hgs
      go_wp2
      refine ⟨⟨k + 1, by omega, by go_num, by rw [HS.out], ?_⟩, by simp [intOf]; omega⟩
      exact HB.out.alloc HB.out.size _
    · clear hb
      go_wp2
      go_ret
      refine ⟨?_, HB.out⟩
      obtain rfl : k = u.globals.length := by omega
      rfl

set_option maxHeartbeats 1000000 in
theorem wordsOf_any (u : UniL) (gp fp : Option Addr) (fl gc fc : Nat) (w : World) (hgl : u.globals.length * 48 ≤ 140737488351232) (hG : SliceAt w 3 (GloR w) gp u.globals) (hw : ∀ k, k ≤ u.globals.length → 0 ≤ wordsTo u k ∧ wordsTo u k ≤ 200) :
    Calls Tryd.prog 110 #[.agg #[.slice gp u.globals.length gc, .slice fp fl fc]] w fun e w' => e = .returned (.int .i64 (wordsU u)) ∧ Below w.heap.size w w' := by
  have HG := hidI hG
  have HW := hidI hw
  clear hG hw
  go_enter Tryd.func110, Tryd.ntmps110
  go_wp2
  go_loopw [3, 4] (fun n i wr => ∃ k : Nat, k ≤ u.globals.length ∧ i = .int .i64 k ∧ n = .int .i64 (wordsTo u k) ∧ Below (w.heap.size + 1) (w.alloc (.cells #[.slice gp u.globals.length gc, .slice fp fl fc] 35)) wr) (fun _ i _ => u.globals.length - (intOf i).toNat)
  case atStart => exact ⟨0, by omega, rfl, rfl, Below.refl _ _⟩
  case round =>
    obtain ⟨k, hk, rfl, rfl, hb⟩ := hrel
    have HB := hidI hb
    have h0 := HW.out k hk
    have HBx : Hid (Below w.heap.size w wr) := ((Below.refl _ _).alloc (Nat.le_refl _) _).trans (hb.mono (by omega))
    obtain ⟨hcc, hcf⟩ := blk (heap_below hb (by omega) (heap_here w _))
    by_cases hlt : k < u.globals.length
    · obtain ⟨b2, o2, q, c, hp, e0, e1, e2, hns, hgs, hil, _⟩ := gloGet HG.out HBx.out hlt
      have h1 := HW.out (k + 1) (by omega)
      rw [wordsTo_succ hlt] at h1
      have HS := hidI (wordsTo_succ hlt)
      have hgs1 := hgs.1
      have hgs2 := hgs.2
      subst hp
      clear hb hgs
      go_wp2
      refine ⟨⟨k + 1, by omega, by go_num, by rw [HS.out], ?_⟩, by simp [intOf]; omega⟩
      exact HB.out
    · clear hb
      go_wp2
      go_ret
      refine ⟨?_, HBx.out⟩
      obtain rfl : k = u.globals.length := by omega
      rfl

set_option maxHeartbeats 1000000 in
theorem may_any (op dst an bn fn words : Int) (ar br : Bool) (p : Option Addr) (l c : Nat) (w : World) :
    Calls Tryd.prog 89 #[.agg #[.int .i64 op, .int .i64 dst, .bool ar, .int .i64 an, .bool br, .int .i64 bn, .int .i64 fn, .slice p l c], .int .i64 words] w fun e w' => e = .returned (.bool (mayB op an bn ar br words)) ∧ Below w.heap.size w w' := by
  go_enter Tryd.func89, Tryd.ntmps89
  go_wp2
  all_goals
    go_ret
    refine ⟨congrArg (fun b => Ending.returned (.bool b)) ?_, by repeat (first | with_reducible exact Below.refl _ _ | with_reducible exact HB3.out | with_reducible refine Below.drew ?_ | with_reducible refine below_drewN ?_ _ | with_reducible refine Below.setCell ?_ ?_ _ | with_reducible refine Below.alloc ?_ ?_ _ | with_reducible exact HB2.out | with_reducible exact HB1.out | with_reducible refine Below.trans ?_ (Below.mono hb3 ?_) | with_reducible refine Below.trans ?_ (Below.mono hb5 ?_) | with_reducible refine Below.trans ?_ (Below.mono hb4 ?_) | omega | (simp; omega) | simp)⟩
    first | (simp_all [mayB]; done) | (simp_all [mayB]; omega) | trace_state

end Go.Proofs.YtlalmbklhmpngaaDoor
namespace Go.Proofs.YtlalmbklhmpngaaDoor
open Go.RowKit

set_option maxHeartbeats 1000000 in
theorem pureEnds_any (u : UniL) (op dst an bn fn : Int) (ar br : Bool) (p : Option Addr) (l c : Nat) (gp fp : Option Addr) (fl gc fc : Nat) (w : World) (hgl : u.globals.length * 48 ≤ 140737488351232) (hG : SliceAt w 3 (GloR w) gp u.globals) (hw : ∀ k, k ≤ u.globals.length → 0 ≤ wordsTo u k ∧ wordsTo u k ≤ 200) :
    Calls Tryd.prog 92 #[.agg #[.slice gp u.globals.length gc, .slice fp fl fc], .agg #[.int .i64 op, .int .i64 dst, .bool ar, .int .i64 an, .bool br, .int .i64 bn, .int .i64 fn, .slice p l c]] w fun e w' => e = .returned (.bool (mayB op an bn ar br (wordsU u))) ∧ Below w.heap.size w w' := by
  have HG := hidI hG
  have HW := hidI hw
  clear hG hw
  by_cases h18 : op = 18 ∨ op = 19
  · have HM : Hid (mayB op an bn ar br (wordsU u) = (ar || decide (an < 0) || decide (wordsU u ≤ an))) := by
      show _ = _
      unfold mayB
      rw [if_neg (by omega), if_pos h18]
    have h5 : (op == 5) = false := by simp; omega
    have h6 : (op == 6) = false := by simp; omega
    have h7 : ((op == 18) || (op == 19)) = true := by simp; exact h18
    clear h18
    cases ar
    · by_cases hn : an < 0
      · have hd : decide (an < 0) = true := by simp [hn]
        go_enter Tryd.func92, Tryd.ntmps92
        go_wp2
        all_goals go_quiet (fail)
        all_goals go_wp2
        all_goals go_ret
        all_goals exact ⟨by rw [HM.out]; simp [hn], by repeat (first | with_reducible exact Below.refl _ _ | with_reducible exact HB3.out | with_reducible refine Below.drew ?_ | with_reducible refine below_drewN ?_ _ | with_reducible refine Below.setCell ?_ ?_ _ | with_reducible refine Below.alloc ?_ ?_ _ | with_reducible exact HB2.out | with_reducible exact HB1.out | with_reducible refine Below.trans ?_ (Below.mono hb3 ?_) | with_reducible refine Below.trans ?_ (Below.mono hb5 ?_) | with_reducible refine Below.trans ?_ (Below.mono hb4 ?_) | omega | (simp; omega) | simp)⟩
      · have hd : decide (an < 0) = false := by simpa using hn
        go_enter Tryd.func92, Tryd.ntmps92
        go_wp2
        all_goals
          go_region_held3 (fun w' => w'.cell? ⟨w.heap.size, 0, none⟩ = some (.slice gp u.globals.length gc) ∧ w'.cell? ⟨w.heap.size, 1, none⟩ = some (.slice fp fl fc) ∧ w'.cell? ⟨w.heap.size + 1, 2, none⟩ = some (.bool false) ∧ w'.cell? ⟨w.heap.size + 1, 3, none⟩ = some (.int .i64 an)) (go_keep)
            (first | (go_at_call 110; refine (wordsOf_any u _ _ _ _ _ _ hgl ?_ HW.out).mono ?_; (exact glosMono HG.out (by repeat (first | with_reducible exact Below.refl _ _ | with_reducible exact HB3.out | with_reducible refine Below.drew ?_ | with_reducible refine below_drewN ?_ _ | with_reducible refine Below.setCell ?_ ?_ _ | with_reducible refine Below.alloc ?_ ?_ _ | with_reducible exact HB2.out | with_reducible exact HB1.out | with_reducible refine Below.trans ?_ (Below.mono hb3 ?_) | with_reducible refine Below.trans ?_ (Below.mono hb5 ?_) | with_reducible refine Below.trans ?_ (Below.mono hb4 ?_) | omega | (simp; omega) | simp))); rintro e w2 ⟨rfl, hb2⟩; obtain ⟨hcq, hfq, hzq⟩ := bcell hb2; have hqa := fun o => hcq w.heap.size o (by simp; omega)))
        all_goals go_wp2
        all_goals go_ret
        all_goals
          refine ⟨?_, Below.trans ?_ (hb2.mono (by simp; omega))⟩
          · rw [HM.out, hd]
            simp
          · repeat (first | with_reducible exact Below.refl _ _ | with_reducible exact HB3.out | with_reducible refine Below.drew ?_ | with_reducible refine below_drewN ?_ _ | with_reducible refine Below.setCell ?_ ?_ _ | with_reducible refine Below.alloc ?_ ?_ _ | with_reducible exact HB2.out | with_reducible exact HB1.out | with_reducible refine Below.trans ?_ (Below.mono hb3 ?_) | with_reducible refine Below.trans ?_ (Below.mono hb5 ?_) | with_reducible refine Below.trans ?_ (Below.mono hb4 ?_) | omega | (simp; omega) | simp)
    · go_enter Tryd.func92, Tryd.ntmps92
      go_wp2
      all_goals go_quiet (fail)
      all_goals go_wp2
      all_goals go_ret
      all_goals exact ⟨by rw [HM.out]; simp, by repeat (first | with_reducible exact Below.refl _ _ | with_reducible exact HB3.out | with_reducible refine Below.drew ?_ | with_reducible refine below_drewN ?_ _ | with_reducible refine Below.setCell ?_ ?_ _ | with_reducible refine Below.alloc ?_ ?_ _ | with_reducible exact HB2.out | with_reducible exact HB1.out | with_reducible refine Below.trans ?_ (Below.mono hb3 ?_) | with_reducible refine Below.trans ?_ (Below.mono hb5 ?_) | with_reducible refine Below.trans ?_ (Below.mono hb4 ?_) | omega | (simp; omega) | simp)⟩
  · have h18b : (op == 18) = false := by simp; omega
    have h19b : (op == 19) = false := by simp; omega
    clear h18
    go_enter Tryd.func92, Tryd.ntmps92
    go_wp2
    all_goals
      go_ret
      refine ⟨congrArg (fun b => Ending.returned (.bool b)) ?_, by repeat (first | with_reducible exact Below.refl _ _ | with_reducible exact HB3.out | with_reducible refine Below.drew ?_ | with_reducible refine below_drewN ?_ _ | with_reducible refine Below.setCell ?_ ?_ _ | with_reducible refine Below.alloc ?_ ?_ _ | with_reducible exact HB2.out | with_reducible exact HB1.out | with_reducible refine Below.trans ?_ (Below.mono hb3 ?_) | with_reducible refine Below.trans ?_ (Below.mono hb5 ?_) | with_reducible refine Below.trans ?_ (Below.mono hb4 ?_) | omega | (simp; omega) | simp)⟩
      first | (simp_all [mayB]; done) | (simp_all [mayB]; omega) | trace_state
end Go.Proofs.YtlalmbklhmpngaaDoor
namespace Go.Proofs.YtlalmbklhmpngaaDoor
open Go.RowKit

/-- the instruction at a place of a unit, if it is one -/
def insAt (u : UniL) (k b i : Int) : Option InsL :=
  if k < 0 ∨ b < 0 ∨ i < 0 then none
  else match u.funcs[k.toNat]? with
  | none => none
  | some f => match f.blocks[b.toNat]? with
  | none => none
  | some x => x.list[i.toNat]?

/-- instruction by instruction: the unit's cells down to it -/
theorem insAt_some {u : UniL} {k b i : Int} {x : InsL} (h : insAt u k b i = some x) : ∃ (k' b' i' : Nat) (h1 : k' < u.funcs.length) (h2 : b' < u.funcs[k'].blocks.length) (h3 : i' < u.funcs[k'].blocks[b'].list.length), k = k' ∧ b = b' ∧ i = i' ∧ x = u.funcs[k'].blocks[b'].list[i'] := by
  unfold insAt at h
  split at h
  · cases h
  · rename_i hn
    split at h
    · cases h
    · rename_i f hf
      split at h
      · cases h
      · rename_i bl hb
        obtain ⟨h1, rfl⟩ := List.getElem?_eq_some_iff.1 hf
        obtain ⟨h2, rfl⟩ := List.getElem?_eq_some_iff.1 hb
        obtain ⟨h3, rfl⟩ := List.getElem?_eq_some_iff.1 h
        exact ⟨k.toNat, b.toNat, i.toNat, h1, h2, h3, by omega, by omega, by omega, rfl⟩
theorem insAt_none {u : UniL} {k b i : Int} (h : insAt u k b i = none) : k < 0 ∨ (u.funcs.length : Int) ≤ k ∨ ∃ (k' : Nat) (h1 : k' < u.funcs.length), k = k' ∧ (b < 0 ∨ (u.funcs[k'].blocks.length : Int) ≤ b ∨ ∃ (b' : Nat) (h2 : b' < u.funcs[k'].blocks.length), b = b' ∧ (i < 0 ∨ (u.funcs[k'].blocks[b'].list.length : Int) ≤ i)) := by
  rcases Int.lt_or_le k 0 with hk | hk
  · exact .inl hk
  rcases Int.lt_or_le k u.funcs.length with hk2 | hk2
  rotate_left
  · exact .inr (.inl hk2)
  refine .inr (.inr ⟨k.toNat, by omega, by omega, ?_⟩)
  rcases Int.lt_or_le b 0 with hb | hb
  · exact .inl hb
  rcases Int.lt_or_le b u.funcs[k.toNat].blocks.length with hb2 | hb2
  rotate_left
  · exact .inr (.inl hb2)
  refine .inr (.inr ⟨b.toNat, by omega, by omega, ?_⟩)
  rcases Int.lt_or_le i 0 with hi | hi
  · exact .inl hi
  rcases Int.lt_or_le i u.funcs[k.toNat].blocks[b.toNat].list.length with hi2 | hi2
  rotate_left
  · exact .inr hi2
  exfalso
  unfold insAt at h
  rw [if_neg (by omega), List.getElem?_eq_getElem (by omega)] at h
  simp only at h
  rw [List.getElem?_eq_getElem (by omega)] at h
  simp only at h
  rw [List.getElem?_eq_getElem (by omega)] at h
  cases h

theorem cell_set_ne {w : World} {b o b' o' : Nat} {v : Value} (h : ¬ b' = b) : (w.setCell ⟨b, o, none⟩ v).cell? ⟨b', o', none⟩ = w.cell? ⟨b', o', none⟩ :=
  World.cell?_of_block (Below.heap_setCell _ _ _ _ h)
theorem res_one_drew {w : World} {R : Nat} {T : TypeId} (h : w.heap[R]? = some (.cells #[.int .i64 0, .int .i64 0] T (0, 0))) (o1 : Obj) (e a : Int) (j : Nat) :
    (((w.setCell ⟨R, 0, none⟩ (.int .i64 e)).setCell ⟨R, 1, none⟩ (.int .i64 a)).alloc o1).drew.cell? ⟨R, j, none⟩ = (#[.int .i64 e, .int .i64 a] : Array Value)[j]? :=
  (blk (heap_drew (heap_step (heap_set (heap_set h 0 _) 1 _)))).1 j

end Go.Proofs.YtlalmbklhmpngaaDoor
