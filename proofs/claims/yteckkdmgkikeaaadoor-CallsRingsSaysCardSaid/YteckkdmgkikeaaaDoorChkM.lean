/-
  The contract of code.ahead: of each block the blocks that lead to it.
-/
import Derived.Test.YteckkdmgkikeaaaDoorChkL
import Derived.Maps.AppendAt
import Derived.WalkKit
import Derived.WalkSpells
import Derived.WalkLawsBesides
namespace Go.Proofs.YteckkdmgkikeaaaDoor
open Go.RowKit

theorem underInts : Tryd.prog.underlying 39 = some (.slice 3) := by kernel_rfl
theorem underRows : Tryd.prog.underlying 59 = some (.slice 39) := by kernel_rfl
theorem infoInt : (Tryd.prog.info? 3).map (fun i => (i.zero, i.size, i.bytes)) = some (some (.int .i64 0), 1, 8) := by kernel_rfl
theorem infoInts : (Tryd.prog.info? 39).map (fun i => (i.zero, i.size, i.bytes)) = some (some (.slice none 0 0), 1, 24) := by kernel_rfl

/-- block i of a row of blocks: its cells; its targets read as to -/
def BlkAt (w : World) (b o i : Nat) (to : List Int) : Prop :=
  ∃ p1 l1 c1 p2 l2 c2 k r m p c, w.cell? ⟨b, o + i * 6, none⟩ = some (.slice p1 l1 c1) ∧ w.cell? ⟨b, o + i * 6 + 1, none⟩ = some (.slice p2 l2 c2) ∧ w.cell? ⟨b, o + i * 6 + 2, none⟩ = some (.int .i64 k) ∧
    w.cell? ⟨b, o + i * 6 + 3, none⟩ = some (.bool r) ∧ w.cell? ⟨b, o + i * 6 + 4, none⟩ = some (.int .i64 m) ∧ w.cell? ⟨b, o + i * 6 + 5, none⟩ = some (.slice p to.length c) ∧ SliceAt w 1 IntR p to

set_option maxRecDepth 100000 in
set_option maxHeartbeats 1000000 in
theorem ahead_any (nm : ByteArray) (params regs : Int) (bb bo bc n : Nat) (TS : List (List Int)) (w : World) (hn : n ≤ 40)
    (hB : ∀ i, i < n → BlkAt w bb bo i (TS.getD i []))
    (hE : ∀ i, i < n → (TS.getD i []).length ≤ 2 ∧ ∀ t ∈ TS.getD i [], 1 ≤ t ∧ t < n) :
    Calls Tryd.prog 78 #[.agg #[.string nm, .int .i64 params, .int .i64 regs, .slice (some ⟨bb, bo, none⟩) n bc]] w fun e w' =>
      (∃ f : Nat → Value, e = .returned (.slice (some ⟨w.heap.size + 1, 0, none⟩) n n) ∧ Rows2 w' (w.heap.size + 1 + 1) (w.heap.size + 1) n 39 3 (waysOf TS n) f) ∧ Below w.heap.size w w' := by
  obtain ⟨i1, k1, k2, k3, k4⟩ := info_parts infoInt
  obtain ⟨i2, l1, l2, l3, l4⟩ := info_parts infoInts
  have hmk := run_make_row 59 39 i2 (.slice none 0 0) underRows l1 l2 l3 rfl .i64 .i64 n (by rw [l4]; omega) (by omega)
  have HB : Hid (∀ i, i < n → BlkAt w bb bo i (TS.getD i [])) := hB
  have HE : Hid (∀ i, i < n → (TS.getD i []).length ≤ 2 ∧ ∀ t ∈ TS.getD i [], 1 ≤ t ∧ t < n) := hE
  clear hB hE
  go_enter Tryd.func78, Tryd.ntmps78
  go_wp2
  go_loopw [15] (fun i wr => ∃ k : Nat, k ≤ n ∧ i = .int .i64 k ∧ (∃ f, Rows2 wr (w.heap.size + 1 + 1) (w.heap.size + 1) n 39 3 (waysOf TS k) f) ∧ Below w.heap.size w wr) (fun i _ => n - (intOf i).toNat)
  case atStart => exact ⟨0, by omega, rfl, ⟨_, by have := Rows2.made (w.alloc (.cells #[.string nm, .int .i64 params, .int .i64 regs, .slice (some ⟨bb, bo, none⟩) n bc] 34)) n 39 3; simpa [waysOf] using this⟩, by repeat (first | with_reducible exact Below.refl _ _ | with_reducible exact HB3.out | with_reducible refine Below.drew ?_ | with_reducible refine below_drewN ?_ _ | with_reducible refine Below.setCell ?_ ?_ _ | with_reducible refine Below.alloc ?_ ?_ _ | with_reducible exact HB2.out | with_reducible exact HB1.out | with_reducible refine Below.trans ?_ (Below.mono hb3 ?_) | with_reducible refine Below.trans ?_ (Below.mono hb5 ?_) | with_reducible refine Below.trans ?_ (Below.mono hb4 ?_) | omega | (simp; omega) | simp)⟩
  case round =>
    obtain ⟨k, hk, rfl, ⟨f, hR⟩, hb⟩ := hrel
    have HBw : Hid (Below w.heap.size w wr) := hb
    have HR : Hid (Rows2 wr (w.heap.size + 1 + 1) (w.heap.size + 1) n 39 3 (waysOf TS k) f) := hR
    have hsz : w.heap.size + 1 < wr.heap.size := hR.tab.lt
    clear hb hR
    by_cases hlt : k < n
    · obtain ⟨p1, m1, c1, p2, m2, c2, kk, r, m, p, c, e0, e1, e2, e3, e4, e5, hto⟩ := HB.out k hlt
      have hbb := lt_of_cell e0
      rw [← HBw.out.cell (p := ⟨bb, bo + k * 6, none⟩) hbb] at e0
      rw [← HBw.out.cell (p := ⟨bb, bo + k * 6 + 1, none⟩) hbb] at e1
      rw [← HBw.out.cell (p := ⟨bb, bo + k * 6 + 2, none⟩) hbb] at e2
      rw [← HBw.out.cell (p := ⟨bb, bo + k * 6 + 3, none⟩) hbb] at e3
      rw [← HBw.out.cell (p := ⟨bb, bo + k * 6 + 4, none⟩) hbb] at e4
      rw [← HBw.out.cell (p := ⟨bb, bo + k * 6 + 5, none⟩) hbb] at e5
      obtain ⟨hl2, hts⟩ := HE.out k hlt
      have HTO : Hid (SliceAt w 1 IntR p (TS.getD k [])) := hto
      have HTS : Hid (∀ t ∈ TS.getD k [], 1 ≤ t ∧ t < n) := hts
      clear hto hts
      generalize hto : TS.getD k [] = to at *
      have HK : Hid (TS.getD k [] = to) := hto
      clear hto
      go_wp2
      go_loopw [24] (fun i wq => ∃ j : Nat, j ≤ to.length ∧ i = .int .i64 j ∧ (∃ f, Rows2 wq (w.heap.size + 1 + 1) (w.heap.size + 1) n 39 3 (waysOf TS k ++ (to.map fun t => (t.toNat, k)).take j) f) ∧ Below w.heap.size w wq) (fun i _ => to.length - (intOf i).toNat)
      case atStart => exact ⟨0, by omega, rfl, ⟨f, by simpa using HR.out.alloc _⟩, by have := HBw.out; exact this.alloc (by omega) _⟩
      case round =>
        clear HR HBw e0 e1 e2 e3 e4 e5
        obtain ⟨j, hj, rfl, ⟨f, hR⟩, hb⟩ := hrel
        have HBw : Hid (Below w.heap.size w wr) := hb
        have HR : Hid (Rows2 wr (w.heap.size + 1 + 1) (w.heap.size + 1) n 39 3 (waysOf TS k ++ (to.map fun t => (t.toNat, k)).take j) f) := hR
        have hsz : w.heap.size + 1 < wr.heap.size := hR.tab.lt
        clear hb hR
        by_cases hjl : j < to.length
        · obtain ⟨t, ht⟩ : ∃ t : Nat, to[j] = (t : Int) := ⟨to[j].toNat, by have := (HTS.out _ (List.getElem_mem hjl)).1; omega⟩
          have htn : t < n := by have := (HTS.out _ (List.getElem_mem hjl)).2; omega
          obtain ⟨tb, tof, hp, htc⟩ : ∃ tb tof, p = some ⟨tb, tof, none⟩ ∧ wr.cell? ⟨tb, tof + j, none⟩ = some (.int .i64 t) := by
            rcases HTO.out with h0 | ⟨tb, tof, hp, hc⟩
            · rw [h0] at hjl; simp at hjl
            · refine ⟨tb, tof, hp, ?_⟩
              obtain ⟨cs, _, hc, ⟨rfl, _⟩⟩ := hc j hjl
              have h2 := hc 0 (by omega)
              simp only [Nat.mul_one, Nat.add_zero, List.getElem?_cons_zero] at h2
              rw [HBw.out.cell (p := ⟨tb, tof + j, none⟩) (lt_of_cell h2), h2, ht]
          subst hp
          have hrow := HR.out.row t htn
          obtain ⟨q, qc, hq⟩ : ∃ q qc, f t = .slice q (rowOf (waysOf TS k ++ (to.map fun t => (t.toNat, k)).take j) t).length qc := by
            rcases hrow.2 with ⟨h1, h2⟩ | ⟨g, cap, cur, h1, _⟩
            · refine ⟨none, 0, ?_⟩
              rw [h1, h2]
            · exact ⟨_, _, h1⟩
          have HQ : Hid (f t = .slice q (rowOf (waysOf TS k ++ (to.map fun t => (t.toNat, k)).take j) t).length qc) := hq
          have hfc := HR.out.tab.cell htn
          have hff := HR.out.tab.frozen t
          rw [hq] at hfc hrow
          clear hq
          have HT : Hid (to[j]? = some (t : Int)) := by show _ = _; rw [List.getElem?_eq_getElem hjl, ht]
          clear ht
          have hm2 : (rowOf (waysOf TS k ++ (to.map fun t => (t.toNat, k)).take j) t).length ≤ 2 * k + 2 := by
            have h1 := rowOf_le (waysOf TS k ++ (to.map fun t => (t.toNat, k)).take j) t
            have h2 := waysOf_le TS k n hk (fun i hi => (HE.out i hi).1)
            rw [List.length_append, List.length_take, List.length_map] at h1
            omega
          generalize hm : (rowOf (waysOf TS k ++ (to.map fun t => (t.toNat, k)).take j) t).length = m at *
          have HM : Hid ((rowOf (waysOf TS k ++ (to.map fun t => (t.toNat, k)).take j) t).length = m) := hm
          clear hm
          go_wp2_with (at_builtin; refine wpList_append_own_at _ rfl _ _ 39 rfl (w.heap.size + 1 + 1) 3 i1 (.int .i64 0) 1 8 underInts k1 k2 k3 k4 rfl (by decide) _ _ _ rfl (hrow.alloc _) ⟨wr.heap.size, 0, none⟩ 1 1 [.int .i64 k] rfl rfl (cell_one_new _ _ _) (by simp [Value.oneCell']) ?_ ?_ ?_ ?_)
          · unfold maxLen; omega
          · omega
          · simp; omega
          intro v' w1 hown' hgrow _ hat
          have HP := (HR.out.alloc (.cells #[.int .i64 k] 3)).put (i := k) (by simp; omega) htn (v' := v') (w' := w1) (by rw [HM.out]; exact hown') (by rw [HQ.out]; exact hgrow) (by rw [HQ.out]; simpa using hat)
          obtain ⟨q2, c2', hv2⟩ : ∃ q2 c2, v' = .slice q2 (m + 1) c2 := by
            rcases hown'.2 with ⟨h1, h2⟩ | ⟨g, cap, cur, h1, _⟩
            · omega
            · exact ⟨_, _, h1⟩
          subst hv2
          obtain ⟨hc1, hf1⟩ := (HR.out.alloc (.cells #[.int .i64 k] 3)).atTab htn (w' := w1) (by rw [HQ.out]; exact hgrow)
          rw [HQ.out] at hc1
          have hbw := (HBw.out.alloc (by omega) (.cells #[.int .i64 k] 3)).grown hgrow (by simp; omega) (fun kk e => by have := (hrow.lt kk e).1; omega)
          have HB2 := hidI hbw
          have HP2 := hidI HP
          clear HP hown' hgrow hat hfc hff htc hrow hbw
          go_wp2
          refine ⟨⟨j + 1, by omega, by go_num, ⟨fun i => if i = t then Value.slice q2 (m + 1) c2' else f i, ?_⟩, ?_⟩, by simp [intOf]; omega⟩
          · rw [List.take_add_one, List.getElem?_map, HT.out]
            have HP3 := HP2.out
            rw [List.append_assoc] at HP3
            exact HP3
          · exact HB2.out.setCell (by show _ ≤ w.heap.size + 1; omega) _
        · go_wp2
          obtain rfl : j = to.length := by omega
          refine ⟨⟨k + 1, by omega, by go_num, ⟨f, ?_⟩, HBw.out⟩, by simp [intOf]; omega⟩
          have HR2 := HR.out
          rw [List.take_of_length_le (by simp)] at HR2
          unfold waysOf
          rw [HK.out]
          exact HR2
    · go_wp2
      go_ret
      obtain rfl : k = n := by omega
      exact ⟨⟨f, rfl, HR.out⟩, HBw.out⟩
end Go.Proofs.YteckkdmgkikeaaaDoor
