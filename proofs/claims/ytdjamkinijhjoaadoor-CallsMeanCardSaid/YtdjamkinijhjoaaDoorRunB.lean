/-
  The contract of the walker's enter.
-/
import Derived.Test.YtdjamkinijhjoaaDoorRunA
import Derived.Laws.CopyOwn
import Derived.Maps.AppendAt
import Derived.WalkKit
import Derived.WalkSpells
import Derived.WalkLawsBesides
namespace Go.Proofs.YtdjamkinijhjoaaDoor
open Go.RowKit

theorem infoInt9 : (Tryd.prog.info? 3).map (fun i => (i.zero, i.size, i.bytes)) = some (some (.int .i64 0), 1, 8) := by kernel_rfl
theorem underInts9 : Tryd.prog.underlying 46 = some (.slice 3) := by kernel_rfl
theorem infoFrame : (Tryd.prog.info? 181).map (fun i => (i.zero, i.size, i.bytes)) = some (some (.agg #[.int .i64 0, .int .i64 0, .int .i64 0, .slice none 0 0, .int .i64 0]), 5, 56) := by kernel_rfl
theorem underFrames : Tryd.prog.underlying 146 = some (.slice 181) := by kernel_rfl
theorem sizeInt9 : (Tryd.prog.info? 3).map (·.size) = some 1 := by kernel_rfl

/-- a run under way lies in memory -/
def Walks (L : Lies) (u : UniL) (w : World) (s : StL) : Prop := ∃ ro R iv ov fv, WalkR L u w ro R iv ov fv s
theorem WalkR.walks {L : Lies} {u : UniL} {w : World} {ro R : Nat → Nat} {iv ov fv : Value} {s : StL} (h : WalkR L u w ro R iv ov fv s) : Walks L u w s := ⟨ro, R, iv, ov, fv, h⟩
theorem grown_trans {w w1 w2 : World} {row : Option Nat} (h : Below w.heap.size w w1) (hg : w1.grownBy w2 row) : w.grownBy w2 row :=
  ⟨hg.os.trans h.os, hg.tape.trans h.tape, hg.output.trans h.output, Nat.le_trans h.size hg.size, fun k hk hne => (hg.block k (by have := h.size; omega) hne).trans (h.block k hk)⟩
theorem made_list (n : Nat) : madeCells #[Value.int .i64 0] n = (List.replicate n (Value.int .i64 0)).toArray := by
  apply Array.ext
  · simp [madeCells]
  · intro i h1 h2
    simp [madeCells, Nat.mod_one]
theorem splice_regs (args : List Int) (n : Nat) (h : args.length ≤ n) (j : Nat) (hj : j < n) : (splice (List.replicate n (Value.int .i64 0)) 0 (args.map (.int .i64)))[j]? = some (.int .i64 ((args ++ List.replicate (n - args.length) 0).getD j 0)) := by
  unfold splice
  rw [List.take_zero, List.nil_append, List.drop_replicate, List.length_map]
  have e : List.replicate (n - (0 + args.length)) (Value.int .i64 0) = (List.replicate (n - args.length) (0 : Int)).map (Value.int .i64) := by simp
  rw [e, ← List.map_append, List.getElem?_map]
  have hl : j < (args ++ List.replicate (n - args.length) (0 : Int)).length := by simp; omega
  rw [List.getElem?_eq_getElem hl]
  simp only [List.getD, List.getElem?_eq_getElem hl, Option.map_some, Option.getD_some]
theorem cell_ne {w : World} {b o b' o' : Nat} {v : Value} (h : ¬ b' = b) : (w.setCell ⟨b, o, none⟩ v).cell? ⟨b', o', none⟩ = w.cell? ⟨b', o', none⟩ :=
  World.cell?_of_block (Below.heap_setCell _ _ _ _ h)
theorem splice_row {w : World} {g n : Nat} {t : TypeId} {args : List Int} (h : args.length ≤ n) (hg : w.heap[g]? = some (.cells (splice (List.replicate n (Value.int .i64 0)) 0 (args.map (.int .i64))).toArray t (0, 0))) :
    w.rowIs g t n (fun j => .int .i64 ((args ++ List.replicate (n - args.length) 0).getD j 0)) :=
  ⟨_, hg, by rw [List.size_toArray, length_splice _ _ _ (by simp; omega), List.length_replicate], fun j hj => by rw [List.getElem?_toArray]; exact splice_regs args n h j hj⟩

set_option maxRecDepth 100000 in
set_option maxHeartbeats 1000000 in
theorem wenter_any {L : Lies} {u : UniL} {w : World} {s : StL} (hu : UOk u) (h : Walks L u w s) (hok : StOk u s) (hst : s.steps ≤ 1000000) (hF : SliceAt L.w0 4 (FunR L.w0) L.fp u.funcs) {k : Nat} (hk : k < u.funcs.length) (dst : Int) (args : List Int) (ap : Option Addr) (ac : Nat) (hal : args.length ≤ (fnU u k).regs.toNat) (hA : SliceAt w 1 IntR ap args) :
    Calls Tryd.prog 81 #[.pointer (some ⟨L.W, 0, none⟩), .int .i64 k, .int .i64 dst, .slice ap args.length ac] w fun e w' => e = .returned (.tuple #[]) ∧ Walks L u w' (enterS u s k dst args) := by
  obtain ⟨ro, R, iv, ov, fv, h⟩ := h
  obtain ⟨i1, k1, k2, k3, k4⟩ := info_parts infoInt9
  obtain ⟨i2, l1, l2, l3, l4⟩ := info_parts infoFrame
  obtain ⟨_, _, hb1, hb2, hr0, hr1, _⟩ := hu.fn hk
  obtain ⟨n, hn⟩ := Int.eq_ofNat_of_zero_le hr0
  have hnn : (fnU u k).regs.toNat = n := by omega
  have hmk := run_make_row 46 3 i1 (.int .i64 0) underInts9 k1 k2 k3 rfl .i64 .i64 n (by rw [k4]; omega) (by omega)
  obtain ⟨fb, fo, bp, bc, hfp, e1, e2, e3, e4, _⟩ := funGet hF h.below hk
  rw [← fnU_get hk, hn] at e3
  have hbk := blk h.head
  have c1 : w.cell? ⟨L.W, 1, none⟩ = some (.slice L.fp u.funcs.length L.fc) := by rw [hbk.1]; rfl
  rw [hfp] at c1
  have zW := lt_of_cell c1
  have zf := lt_of_cell e3
  have g0 : (0 : Int) ≤ (k : Int) := by omega
  have g1 : (k : Int) < u.funcs.length := by omega
  have H := hidI h
  have HF := hidI hF
  have hfew := hok.few
  have zH := h.below.size
  have hcn := hok.cnt k 0
  clear h e1 e2 e4 hbk hF
  go_enter Tryd.func81, Tryd.ntmps81
  go_wp2_with (with_reducible refine wpList_copy_splice rfl (.tmp 19) (.tmp 20) 46 46 rfl 3 underInts9 sizeInt9 (some ⟨w.heap.size, 0, none⟩) ap n n args.length ac rfl rfl w.heap.size 0 (List.replicate n (.int .i64 0)) 3 ?_ (args.map (.int .i64)) ?_ ?_ ?_ ?_ w.heap.size w ?_ ?_ ?_)
  · rw [← made_list]; exact heap_here w _
  · rw [List.length_map]; show _ = min _ _; omega
  · intro hp
    try refine ⟨rfl, ?_⟩
    rcases hA with rfl | ⟨b, o, rfl, hA⟩
    · simp at hp
    · refine ⟨_, rfl, fun j v hv => ?_⟩
      obtain ⟨hj, rfl⟩ := List.getElem?_eq_some_iff.1 hv
      obtain ⟨cs, _, hc, rfl, _⟩ := hA j hj
      have h0 := hc 0 (by omega)
      simp only [Nat.mul_one, Nat.add_zero, List.getElem?_cons_zero] at h0
      have e : (⟨b, o, none⟩ : Addr).add j = ⟨b, o + j, none⟩ := by unfold Addr.add; split <;> simp_all
      rw [e]
      exact (World.cell?_of_block (Below.heap_alloc w _ _ (lt_of_cell h0))).trans h0
  · rw [List.length_map, List.length_replicate]; omega
  · intro v hv
    obtain ⟨x, _, rfl⟩ := List.mem_map.1 hv
    simp [Value.oneCell']
  · repeat (first | with_reducible exact Below.refl _ _ | with_reducible exact HB3.out | with_reducible refine Below.drew ?_ | with_reducible refine below_drewN ?_ _ | with_reducible refine Below.setCell ?_ ?_ _ | with_reducible refine Below.alloc ?_ ?_ _ | with_reducible exact HB2.out | with_reducible exact HB1.out | with_reducible refine Below.trans ?_ (Below.mono hb3 ?_) | with_reducible refine Below.trans ?_ (Below.mono hb5 ?_) | with_reducible refine Below.trans ?_ (Below.mono hb4 ?_) | omega | (simp; omega) | simp)
  · exact Nat.le_refl _
  intro w1 hg1 hb1
  have HB1 := hidI hb1
  have HR1 : Hid (w1.rowIs w.heap.size 3 n (fun j => .int .i64 ((args ++ List.replicate (n - args.length) 0).getD j 0))) := splice_row (by omega) hg1.out
  have H1 := hidI (H.out.mono hb1)
  have hbk1 := blk H1.out.head
  have c9 : w1.cell? ⟨L.W, 9, none⟩ = some fv := by rw [hbk1.1]; rfl
  have zW1 := lt_of_cell c9
  have z1 := HR1.out.lt
  clear hg1 hb1 hbk1
  go_wp2_with (at_builtin; refine wpList_append_own_at _ rfl _ _ 146 rfl L.w0.heap.size 181 i2 _ 5 56 underFrames l1 l2 l3 l4 rfl (by decide) _ _ _ rfl (H1.out.frmO.alloc _) ⟨w1.heap.size, 0, none⟩ 1 1 [.int .i64 k, .int .i64 0, .int .i64 0, .slice (some ⟨w.heap.size, 0, none⟩) n n, .int .i64 dst] rfl rfl (fun j u h => by rw [addr_add]; exact cell_new_at _ _ _ _ (by simpa using h)) (by simp [Value.oneCell']) ?_ ?_ ?_ ?_)
  · unfold maxLen; omega
  · omega
  · have := HB1.out.size; simp; omega
  intro v' w2 hown' hgrow _ hv'
  obtain ⟨g', cap', rfl⟩ := ownsRow_succ' hown'
  have hfne : ∀ b, fv.ownBlock = some b → b < w.heap.size ∧ b ≠ L.W := fun b e => ⟨(H.out.frmO.lt b e).2, fun e2 => by subst e2; have := H.out.roF _ e; have := H.out.roW; omega⟩
  have hg2 : w.grownBy w2 fv.ownBlock := grown_trans (HB1.out.trans (((Below.refl _ _).alloc (Nat.le_refl _) _).mono HB1.out.size)) hgrow
  have hlen : (args ++ List.replicate (n - args.length) 0).length = n := enter_regs _ _ (by omega)
  have hr2 : w2.rowIs w.heap.size 3 n (fun j => .int .i64 ((args ++ List.replicate (n - args.length) 0).getD j 0)) :=
    (HR1.out.alloc _).of_block (hgrow.block _ (by simp; omega) (fun e => by have := (hfne _ e.symm).1; omega))
  have hh2 : w2.heap[L.W]? = some (.cells (headC L u iv ov fv s) 148 (0, 0)) := (hg2.block _ zW (fun e => (hfne _ e.symm).2 rfl)).trans H.out.head
  have HPs : Hid (WalkR L u (w2.setCell ⟨L.W, 9, none⟩ (.slice (some ⟨g', 0, none⟩) (s.frames.length + 1) cap')) _ _ iv ov (.slice (some ⟨g', 0, none⟩) (s.frames.length + 1) cap') { s with frames := ⟨k, 0, 0, args ++ List.replicate (n - args.length) 0, dst⟩ :: s.frames }) :=
    H.out.push (f := ⟨k, 0, 0, args ++ List.replicate (n - args.length) 0, dst⟩) hg2 (by show World.rowIs _ _ _ (args ++ List.replicate (n - args.length) 0).length _; rw [hlen]; exact hr2) (Nat.le_refl _) (by show World.ownsRow _ _ _ _ _ _ (_ ++ [_, _, _, .slice _ (args ++ List.replicate (n - args.length) 0).length (args ++ List.replicate (n - args.length) 0).length, _]); rw [hlen]; exact hown')
      (hv'.imp id fun e g e2 => by rw [e] at e2; cases e2; exact ⟨by omega, by omega⟩) (grown_set _ _ _) (by rw [heap_set hh2]; rfl)
  have hnT : L.CT ≠ L.W := fun e => by have := HPs.out.roT k hk; have := HPs.out.roW; rw [e] at *; omega
  have hnC : L.C k ≠ L.W := fun e => by have := HPs.out.roC k hk; have := HPs.out.roW; rw [e] at *; omega
  have d9 : w2.cell? ⟨L.W, 9, none⟩ = some fv := by rw [(blk hh2).1]; rfl
  have d10 : w2.cell? ⟨L.W, 10, none⟩ = some (.slice (some ⟨L.CT, 0, none⟩) u.funcs.length L.cc) := by rw [(blk hh2).1]; rfl
  have dT : w2.cell? ⟨L.CT, k, none⟩ = some (.slice (some ⟨L.C k, 0, none⟩) (fnU u k).blocks.length (fnU u k).blocks.length) := (cell_ne hnT).symm.trans (HPs.out.cntT k hk)
  have dC : w2.cell? ⟨L.C k, 0, none⟩ = some (.int .i64 (s.cnt k 0)) := (cell_ne hnC).symm.trans ((HPs.out.cntR k hk).cell (by omega))
  have q9 := (blk hh2).2 9
  have qC : (w2.setCell ⟨L.W, 9, none⟩ (.slice (some ⟨g', 0, none⟩) (s.frames.length + 1) cap')).frozen? ⟨L.C k, 0, none⟩ = false := (HPs.out.cntR k hk).frozen 0
  have zW2 := lt_of_cell d9
  have zT2 := lt_of_cell dT
  have zC2 := lt_of_cell dC
  have hnT2 := hnT.symm
  have hnC2 := hnC.symm
  have g2 : (0 : Int) < (fnU u k).blocks.length := by omega
  have HN := hidI hnn
  clear hown' hgrow hv' hfne hg2 hlen hr2 hh2 hn hnn
  go_wp2_with fail
  go_end0
  refine ⟨rfl, ?_⟩
  have hS := (HPs.out.setCnt hk (b := 0) (s.cnt k 0 + 1) rfl).walks
  rw [← HN.out] at hS
  exact hS
end Go.Proofs.YtdjamkinijhjoaaDoor
