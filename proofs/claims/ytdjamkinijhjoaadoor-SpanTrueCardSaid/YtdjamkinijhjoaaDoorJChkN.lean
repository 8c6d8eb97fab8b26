/-
  The contract of code.ahead: of each block the blocks that lead to it.
  The contracts of slices.Index and slices.Contains on texts.
  Plain: what the check tells of a unit.
-/
import Derived.Maps.AppendAt
import Derived.WalkKit
import Derived.WalkSpells
import Derived.WalkLawsBesides
import Derived.Test.YtdjamkinijhjoaaDoorJChkL
import Derived.Test.YtdjamkinijhjoaaDoorJDatC
namespace Go.Proofs.YtdjamkinijhjoaaDoor
open Go.RowKit

theorem underInts : Tryd.prog.underlying 46 = some (.slice 3) := by kernel_rfl
theorem underRows : Tryd.prog.underlying 94 = some (.slice 46) := by kernel_rfl
theorem infoInt : (Tryd.prog.info? 3).map (fun i => (i.zero, i.size, i.bytes)) = some (some (.int .i64 0), 1, 8) := by kernel_rfl
theorem infoInts : (Tryd.prog.info? 46).map (fun i => (i.zero, i.size, i.bytes)) = some (some (.slice none 0 0), 1, 24) := by kernel_rfl

def BlkAt (w : World) (b o i : Nat) (to : List Int) : Prop :=
 ∃ p1 l1 c1 p2 l2 c2 k r m p c, w.cell? ⟨b, o + i * 6, none⟩ = some (.slice p1 l1 c1) ∧ w.cell? ⟨b, o + i * 6 + 1, none⟩ = some (.slice p2 l2 c2) ∧ w.cell? ⟨b, o + i * 6 + 2, none⟩ = some (.int .i64 k) ∧
  w.cell? ⟨b, o + i * 6 + 3, none⟩ = some (.bool r) ∧ w.cell? ⟨b, o + i * 6 + 4, none⟩ = some (.int .i64 m) ∧ w.cell? ⟨b, o + i * 6 + 5, none⟩ = some (.slice p to.length c) ∧ SliceAt w 1 IntR p to

set_option maxRecDepth 100000 in
set_option maxHeartbeats 1000000 in
theorem ahead_any (nm : ByteArray) (params regs : Int) (bb bo bc n : Nat) (TS : List (List Int)) (w : World) (hn : n ≤ 40)
  (hB : ∀ i, i < n → BlkAt w bb bo i (TS.getD i []))
  (hE : ∀ i, i < n → (TS.getD i []).length ≤ 2 ∧ ∀ t ∈ TS.getD i [], 1 ≤ t ∧ t < n) :
  Calls Tryd.prog 70 #[.agg #[.string nm, .int .i64 params, .int .i64 regs, .slice (some ⟨bb, bo, none⟩) n bc]] w fun e w' =>
   (∃ f : Nat → Value, e = .returned (.slice (some ⟨w.heap.size + 1, 0, none⟩) n n) ∧ Rows2 w' (w.heap.size + 1 + 1) (w.heap.size + 1) n 46 3 (waysOf TS n) f) ∧ Below w.heap.size w w' := by
 obtain ⟨i1, k1, k2, k3, k4⟩ := info_parts infoInt
 obtain ⟨i2, l1, l2, l3, l4⟩ := info_parts infoInts
 have hmk := run_make_row 94 46 i2 (.slice none 0 0) underRows l1 l2 l3 rfl .i64 .i64 n (by rw [l4]; omega) (by omega)
 have HB : Hid (∀ i, i < n → BlkAt w bb bo i (TS.getD i [])) := hB
 have HE : Hid (∀ i, i < n → (TS.getD i []).length ≤ 2 ∧ ∀ t ∈ TS.getD i [], 1 ≤ t ∧ t < n) := hE
 clear hB hE
 go_enter Tryd.func70, Tryd.ntmps70
 go_wp2
 go_loopw [15] (fun i wr => ∃ k : Nat, k ≤ n ∧ i = .int .i64 k ∧ (∃ f, Rows2 wr (w.heap.size + 1 + 1) (w.heap.size + 1) n 46 3 (waysOf TS k) f) ∧ Below w.heap.size w wr) (fun i _ => n - (intOf i).toNat)
 case atStart => exact ⟨0, by omega, rfl, ⟨_, by have := Rows2.made (w.alloc (.cells #[.string nm, .int .i64 params, .int .i64 regs, .slice (some ⟨bb, bo, none⟩) n bc] 37)) n 46 3; simpa [waysOf] using this⟩, by repeat (first | (with_reducible first | exact bR _ _ | exact bH ‹_› | refine bD ?_ | refine bN ?_ _ | refine bS ?_ ?_ _ | refine bA ?_ ?_ _ | refine bT hb3 ?_ ?_ | refine bT hb5 ?_ ?_ | refine bT hb4 ?_ ?_) | omega | (simp; omega) | simp)⟩
 case round =>
  obtain ⟨k, hk, rfl, ⟨f, hR⟩, hb⟩ := hrel
  have HBw : Hid (Below w.heap.size w wr) := hb
  have HR : Hid (Rows2 wr (w.heap.size + 1 + 1) (w.heap.size + 1) n 46 3 (waysOf TS k) f) := hR
  have hsz : w.heap.size + 1 < wr.heap.size := hR.tab.lt
  clear hb hR
  by_cases hlt : k < n
  ·obtain ⟨p1, m1, c1, p2, m2, c2, kk, r, m, p, c, e0, e1, e2, e3, e4, e5, hto⟩ := HB.out k hlt
   have hbb := lt_of_cell e0
   rw [← HBw.out.cell (p := ⟨bb, bo + k * 6, none⟩) hbb] at e0
   rw [← HBw.out.cell (p := ⟨bb, bo + k * 6 + 1, none⟩) hbb] at e1
   rw [← HBw.out.cell (p := ⟨bb, bo + k * 6 + 2, none⟩) hbb] at e2
   rw [← HBw.out.cell (p := ⟨bb, bo + k * 6 + 3, none⟩) hbb] at e3
   rw [← HBw.out.cell (p := ⟨bb, bo + k * 6 + 4, none⟩) hbb] at e4
   rw [← HBw.out.cell (p := ⟨bb, bo + k * 6 + 5, none⟩) hbb] at e5
   obtain ⟨hl2, hts⟩ := HE.out k hlt
   have HTO : Hid (SliceAt w 1 IntR p (TS.getD k [])) := hto
   have HTS : Hid (∀ t ∈ TS.getD k [], 1 ≤ t ∧ t < n) := hts
   clear hto hts
   generalize hto : TS.getD k [] = to at *
   have HK : Hid (TS.getD k [] = to) := hto
   clear hto
   go_wp2
   go_loopw [24] (fun i wq => ∃ j : Nat, j ≤ to.length ∧ i = .int .i64 j ∧ (∃ f, Rows2 wq (w.heap.size + 1 + 1) (w.heap.size + 1) n 46 3 (waysOf TS k ++ (to.map fun t => (t.toNat, k)).take j) f) ∧ Below w.heap.size w wq) (fun i _ => to.length - (intOf i).toNat)
   case atStart => exact ⟨0, by omega, rfl, ⟨f, by simpa using HR.out.alloc _⟩, by have := HBw.out; exact this.alloc (by omega) _⟩
   case round =>
    clear HR HBw e0 e1 e2 e3 e4 e5
    obtain ⟨j, hj, rfl, ⟨f, hR⟩, hb⟩ := hrel
    have HBw : Hid (Below w.heap.size w wr) := hb
    have HR : Hid (Rows2 wr (w.heap.size + 1 + 1) (w.heap.size + 1) n 46 3 (waysOf TS k ++ (to.map fun t => (t.toNat, k)).take j) f) := hR
    have hsz : w.heap.size + 1 < wr.heap.size := hR.tab.lt
    clear hb hR
    by_cases hjl : j < to.length
    ·obtain ⟨t, ht⟩ : ∃ t : Nat, to[j] = (t : Int) := ⟨to[j].toNat, by have := (HTS.out _ (List.getElem_mem hjl)).1; omega⟩
     have htn : t < n := by have := (HTS.out _ (List.getElem_mem hjl)).2; omega
     obtain ⟨tb, tof, hp, htc⟩ : ∃ tb tof, p = some ⟨tb, tof, none⟩ ∧ wr.cell? ⟨tb, tof + j, none⟩ = some (.int .i64 t) := by
      rcases HTO.out with h0 | ⟨tb, tof, hp, hc⟩
      ·rw [h0] at hjl; simp at hjl
      ·refine ⟨tb, tof, hp, ?_⟩
       obtain ⟨cs, _, hc, ⟨rfl, _⟩⟩ := hc j hjl
       have h2 := hc 0 (by omega)
       simp only [Nat.mul_one, Nat.add_zero, List.getElem?_cons_zero] at h2
       rw [HBw.out.cell (p := ⟨tb, tof + j, none⟩) (lt_of_cell h2), h2, ht]
     subst hp
     have hrow := HR.out.row t htn
     obtain ⟨q, qc, hq⟩ : ∃ q qc, f t = .slice q (rowOf (waysOf TS k ++ (to.map fun t => (t.toNat, k)).take j) t).length qc := by
      rcases hrow.2 with ⟨h1, h2⟩ | ⟨g, cap, cur, h1, _⟩
      ·refine ⟨none, 0, ?_⟩
       rw [h1, h2]
      ·exact ⟨_, _, h1⟩
     have HQ : Hid (f t = .slice q (rowOf (waysOf TS k ++ (to.map fun t => (t.toNat, k)).take j) t).length qc) := hq
     have hfc := HR.out.tab.cell htn
     have hff := HR.out.tab.frozen t
     rw [hq] at hfc hrow
     clear hq
     have HT : Hid (to[j]? = some (t : Int)) := by show _ = _; rw [List.getElem?_eq_getElem hjl, ht]
     clear ht
     have hm2 : (rowOf (waysOf TS k ++ (to.map fun t => (t.toNat, k)).take j) t).length ≤ 2 * k + 2 := by
      have h1 := rowOf_le (waysOf TS k ++ (to.map fun t => (t.toNat, k)).take j) t
      have h2 := waysOf_le TS k n hk (fun i hi => (HE.out i hi).1)
      rw [List.length_append, List.length_take, List.length_map] at h1
      omega
     generalize hm : (rowOf (waysOf TS k ++ (to.map fun t => (t.toNat, k)).take j) t).length = m at *
     have HM : Hid ((rowOf (waysOf TS k ++ (to.map fun t => (t.toNat, k)).take j) t).length = m) := hm
     clear hm
     go_wp2_with (at_builtin; refine wpList_append_own_at _ rfl _ _ 46 rfl (w.heap.size + 1 + 1) 3 i1 (.int .i64 0) 1 8 underInts k1 k2 k3 k4 rfl (by decide) _ _ _ rfl (hrow.alloc _) ⟨wr.heap.size, 0, none⟩ 1 1 [.int .i64 k] rfl rfl (cell_one_new _ _ _) (by simp [Value.oneCell']) ?_ ?_ ?_ ?_)
     ·unfold maxLen; omega
     ·omega
     ·simp; omega
     intro v' w1 hown' hgrow _ hat
     have HP := (HR.out.alloc (.cells #[.int .i64 k] 3)).put (i := k) (by simp; omega) htn (v' := v') (w' := w1) (by rw [HM.out]; exact hown') (by rw [HQ.out]; exact hgrow) (by rw [HQ.out]; simpa using hat)
     obtain ⟨q2, c2', hv2⟩ : ∃ q2 c2, v' = .slice q2 (m + 1) c2 := by
      rcases hown'.2 with ⟨h1, h2⟩ | ⟨g, cap, cur, h1, _⟩
      ·omega
      ·exact ⟨_, _, h1⟩
     subst hv2
     obtain ⟨hc1, hf1⟩ := (HR.out.alloc (.cells #[.int .i64 k] 3)).atTab htn (w' := w1) (by rw [HQ.out]; exact hgrow)
     rw [HQ.out] at hc1
     have hbw := (HBw.out.alloc (by omega) (.cells #[.int .i64 k] 3)).grown hgrow (by simp; omega) (fun kk e => by have := (hrow.lt kk e).1; omega)
     have HB2 := hidI hbw
     have HP2 := hidI HP
     clear HP hown' hgrow hat hfc hff htc hrow hbw
     go_wp2
     refine ⟨⟨j + 1, by omega, by go_num, ⟨fun i => if i = t then Value.slice q2 (m + 1) c2' else f i, ?_⟩, ?_⟩, by simp [intOf]; omega⟩
     ·rw [List.take_add_one, List.getElem?_map, HT.out]
      have HP3 := HP2.out
      rw [List.append_assoc] at HP3
      exact HP3
     ·exact HB2.out.setCell (by show _ ≤ w.heap.size + 1; omega) _
    ·go_wp2
     obtain rfl : j = to.length := by omega
     refine ⟨⟨k + 1, by omega, by go_num, ⟨f, ?_⟩, HBw.out⟩, by simp [intOf]; omega⟩
     have HR2 := HR.out
     rw [List.take_of_length_le (by simp)] at HR2
     unfold waysOf
     rw [HK.out]
     exact HR2
  ·go_wp2
   go_ret
   obtain rfl : k = n := by omega
   exact ⟨⟨f, rfl, HR.out⟩, HBw.out⟩
end Go.Proofs.YtdjamkinijhjoaaDoor
namespace Go.Proofs.YtdjamkinijhjoaaDoor
open Go.RowKit

def StrsAt (w : World) (p : Option Addr) (S : List ByteArray) : Prop :=
 S = [] ∨ ∃ b o, p = some ⟨b, o, none⟩ ∧ ∀ i (h : i < S.length), w.cell? ⟨b, o + i, none⟩ = some (.string S[i])

theorem bytes_eq {a b : ByteArray} : (a.toList == b.toList) = true ↔ a = b := by
 rw [beq_iff_eq, ByteArray.toList_eq, ByteArray.toList_eq]
 constructor
 ·intro h
  obtain ⟨x⟩ := a
  obtain ⟨y⟩ := b
  rw [show x = y from Array.toList_inj.1 h]
 ·rintro rfl; rfl

set_option maxHeartbeats 400000 in
theorem index_str (b o c n : Nat) (S : Nat → ByteArray) (v : ByteArray) (w : World) (hn : n ≤ 9223372036854775807) (hc : ∀ i, i < n → w.cell? ⟨b, o + i, none⟩ = some (.string (S i))) :
  Calls Tryd.prog 68 #[.slice (some ⟨b, o, none⟩) n c, .string v] w fun e w' => (∃ k : Int, e = .returned (.int .i64 k) ∧ Hid ((k < 0 ∧ ∀ i, i < n → S i ≠ v) ∨ (0 ≤ k ∧ ∃ i, i < n ∧ S i = v))) ∧ w = w' := by
 go_enter Tryd.func68, Tryd.ntmps68
 go_wp2
 go_loop [8] (fun i => ∃ k : Nat, k ≤ n ∧ i = .int .i64 k ∧ ∀ j, j < k → S j ≠ v) (fun i => n - (intOf i).toNat)
 case atStart => exact ⟨0, by omega, rfl, fun j hj => by omega⟩
 case round =>
  obtain ⟨k, hk, rfl, hV⟩ := hrel
  have HV : Hid (∀ j, j < k → S j ≠ v) := hV
  clear hV
  by_cases hlt : k < n
  ·have c0 := hc k hlt
   have Hlt : Hid (k < n) := hlt
   generalize hs : S k = s at c0
   have HS : Hid (S k = s) := hs
   clear hs hc
   go_wp2
   ·rename_i hw _
    go_ret
    refine ⟨⟨_, rfl, .inr ⟨by simp, k, Hlt.out, ?_⟩⟩, rfl⟩
    rw [HS.out]
    exact (bytes_eq.1 hw).symm
   ·rename_i hw
    refine ⟨⟨k + 1, by omega, by go_num, fun j hj => ?_⟩, by simp [intOf]; omega⟩
    by_cases hj2 : j < k
    ·exact HV.out j hj2
    ·obtain rfl : j = k := by omega
     rw [HS.out]
     intro he
     rw [bytes_eq.2 he.symm] at hw
     cases hw
  ·go_wp2
   go_ret
   refine ⟨⟨_, rfl, .inl ⟨by omega, fun i hi => HV.out i (by omega)⟩⟩, rfl⟩
set_option maxHeartbeats 400000 in
theorem index_nil (p : Option Addr) (c : Nat) (v : ByteArray) (w : World) :
  Calls Tryd.prog 68 #[.slice p 0 c, .string v] w fun e w' => e = .returned (.int .i64 (-1)) ∧ w = w' := by
 go_enter Tryd.func68, Tryd.ntmps68
 go_wp2
 go_loop [8] (fun i => i = .int .i64 0) (fun _ => 0)
 case atStart => rfl
 case round =>
  subst hrel
  go_wp2
  go_ret
  exact ⟨rfl, rfl⟩

def hasB (S : List ByteArray) (v : ByteArray) : Bool := S.any fun s => s.toList == v.toList
theorem hasB_iff {S : List ByteArray} {v : ByteArray} : hasB S v = true ↔ v ∈ S := by
 unfold hasB
 rw [List.any_eq_true]
 constructor
 ·rintro ⟨s, hs, he⟩
  rw [← bytes_eq.1 he]; exact hs
 ·intro h
  exact ⟨v, h, bytes_eq.2 rfl⟩
set_option maxHeartbeats 400000 in
theorem contains_str (p : Option Addr) (c : Nat) (S : List ByteArray) (v : ByteArray) (w : World) (hn : S.length ≤ 9223372036854775807) (h : StrsAt w p S) :
  Calls Tryd.prog 33 #[.slice p S.length c, .string v] w fun e w' => e = .returned (.bool (hasB S v)) ∧ w = w' := by
 rcases h with rfl | ⟨b, o, rfl, h⟩
 ·go_enter Tryd.func33, Tryd.ntmps33
  go_wp2_with (go_at_call 68; refine (index_nil _ _ _ _).mono ?_; rintro e w1 ⟨rfl, rfl⟩)
  go_ret
  exact ⟨by simp [hasB], rfl⟩
 ·have HC : Hid (∀ i, i < S.length → w.cell? ⟨b, o + i, none⟩ = some (.string (S.getD i ByteArray.empty))) := fun i hi => by
   rw [h i hi]; simp [List.getD, hi]
  clear h
  go_enter Tryd.func33, Tryd.ntmps33
  go_wp2_with fail
  refine (index_str _ _ _ _ (fun i => S.getD i ByteArray.empty) _ _ hn HC.out).mono ?_
  rintro e w1 ⟨⟨k, rfl, hk⟩, rfl⟩
  by_cases hk0 : 0 ≤ k
  ·have HB : Hid (hasB S v = true) := by
    show _ = _
    rcases hk.out with ⟨h1, _⟩ | ⟨_, i, hi, hs⟩
    ·omega
    ·rw [hasB_iff, ← hs]
     simp [List.getD, hi]
   clear hk
   go_wp2
   go_ret
   exact ⟨by rw [HB.out]; simp, rfl⟩
  ·have HB : Hid (hasB S v = false) := by
    show _ = _
    rcases hk.out with ⟨_, h2⟩ | ⟨h1, _⟩
    ·rw [Bool.eq_false_iff]
     intro hb
     have hm := hasB_iff.1 hb
     obtain ⟨i, hi, he⟩ := List.mem_iff_getElem.1 hm
     exact h2 i hi (by simp [List.getD, hi, he])
    ·omega
   clear hk
   go_wp2
   go_ret
   exact ⟨by rw [HB.out]; simp; omega, rfl⟩
end Go.Proofs.YtdjamkinijhjoaaDoor
namespace Go.Proofs.YtdjamkinijhjoaaDoor
open Go.RowKit

theorem firstE_zero : ∀ {l : List Int}, (∀ x ∈ l, x = 0) → firstE l = 0
 | [], _ => rfl
 | x :: l, h => by
  unfold firstE
  rw [if_pos (h x List.mem_cons_self)]
  exact firstE_zero (fun y hy => h y (List.mem_cons_of_mem _ hy))
theorem firstE_hit : ∀ {l : List Int} {k : Nat} (hk : k < l.length), (∀ j (hj : j < k), l[j]'(by omega) = 0) → l[k] ≠ 0 → firstE l = l[k]
 | x :: l, 0, _, _, h => by
  unfold firstE
  rw [if_neg (by simpa using h)]; rfl
 | x :: l, k + 1, hk, h0, h => by
  have hx : x = 0 := h0 0 (by omega)
  unfold firstE
  rw [if_pos hx]
  have := firstE_hit (l := l) (k := k) (by simpa using hk) (fun j hj => by have := h0 (j + 1) (by omega); simpa using this) (by simpa using h)
  simpa using this
theorem firstE_all {l : List Int} (h : firstE l = 0) : ∀ x ∈ l, x = 0 := by
 induction l with
 | nil => intro x hx; cases hx
 | cons y l ih =>
  unfold firstE at h
  by_cases hy : y = 0
  ·rw [if_pos hy] at h
   intro x hx
   rcases List.mem_cons.1 hx with rfl | hx
   ·exact hy
   ·exact ih h x hx
  ·rw [if_neg hy] at h; exact absurd h hy

def firstAt (n : Nat) (g : Nat → Int) : Option (Int × Int) := ((List.range n).find? fun i => g i != 0).map fun i => (g i, (i : Int))
theorem firstAt_none {n : Nat} {g : Nat → Int} (h : ∀ j, j < n → g j = 0) : firstAt n g = none := by
 unfold firstAt
 rw [List.find?_eq_none.2]
 ·rfl
 ·intro i hi
  simp [h i (List.mem_range.1 hi)]
theorem firstAt_all {n : Nat} {g : Nat → Int} (h : firstAt n g = none) : ∀ j, j < n → g j = 0 := by
 intro j hj
 unfold firstAt at h
 rw [Option.map_eq_none_iff, List.find?_eq_none] at h
 have := h j (List.mem_range.2 hj)
 simpa using this
theorem find_range : ∀ (n k : Nat) (p : Nat → Bool), k < n → (∀ j, j < k → p j = false) → p k = true → (List.range n).find? p = some k := by
 intro n k p hk h0 h1
 rw [List.find?_eq_some_iff_append]
 refine ⟨h1, List.range k, (List.range (n - k - 1)).map (· + (k + 1)), ?_, fun a ha => by simp [h0 a (List.mem_range.1 ha)]⟩
 apply List.ext_getElem
 ·simp; omega
 ·intro i h2 h3
  rw [List.getElem_range]
  rcases Nat.lt_trichotomy i k with g | g | g
  ·rw [List.getElem_append_left (by simpa using g)]; simp
  ·subst g; rw [List.getElem_append_right (by simp)]; simp
  ·rw [List.getElem_append_right (by simp; omega)]
   rw [List.getElem_cons]
   rw [dif_neg (by simp; omega)]
   simp; omega
theorem firstAt_hit {n k : Nat} {g : Nat → Int} (hk : k < n) (h0 : ∀ j, j < k → g j = 0) (h : g k ≠ 0) : firstAt n g = some (g k, (k : Int)) := by
 unfold firstAt
 rw [find_range n k _ hk (fun j hj => by simp [h0 j hj]) (by simpa using h)]
 rfl

def parU (u : UniL) (k : Nat) : Int := (u.funcs.map (·.params)).getD k 0
def endL (f : FunL) (x : EndL) : Int := endE f.regs f.blocks.length x.kind x.onr x.onn x.to
def insL (u : UniL) (f : FunL) (x : InsL) : Int := insE f.regs u.funcs.length (parU u) x.op x.dst x.an x.bn x.fn x.ar x.br x.args
def phiL (f : FunL) (block cnt : Nat) (x : PhiL) : Int := phiE f.regs block cnt x.dst x.src
def tosL (f : FunL) : List (List Int) := f.blocks.map fun b => b.fin.to
def waysL (f : FunL) : List (Nat × Nat) := waysOf (tosL f) f.blocks.length
def blkE (u : UniL) (f : FunL) (i : Nat) (b : BlkL) : Int :=
 if firstE (b.phis.map (phiL f i (rowOf (waysL f) i).length)) = 0 then firstE (b.list.map (insL u f)) else firstE (b.phis.map (phiL f i (rowOf (waysL f) i).length))
def blkI (u : UniL) (f : FunL) (i : Nat) : Int := match f.blocks[i]? with | some b => blkE u f i b | none => 0
def bodyE (u : UniL) (f : FunL) : Int :=
 if firstE (f.blocks.map fun b => endL f b.fin) = 0 then firstE ((List.range f.blocks.length).map (blkI u f)) else firstE (f.blocks.map fun b => endL f b.fin)

def manyL (f : FunL) : Nat := (f.blocks.map fun b => b.phis.length + b.list.length).sum
def headE (names : List ByteArray) (f : FunL) : Int :=
 if nameB f.name = false then 12
 else if hasB names f.name = true then 7
 else if ¬(0 ≤ f.params ∧ f.params ≤ 6) ∨ ¬(f.params ≤ f.regs ∧ f.regs ≤ 100) then 3
 else if ¬(1 ≤ f.blocks.length ∧ f.blocks.length ≤ 40) ∨ 300 < manyL f then 2
 else 0
def wordsTo (u : UniL) (k : Nat) : Int := ((u.globals.take k).map (·.size)).sum
def gloE (names : List ByteArray) (words : Int) (g : GloL) : Int :=
 if nameB g.name = false then 12
 else if hasB names g.name = true then 7
 else if ¬(1 ≤ g.size ∧ g.size ≤ 200) then 3
 else if g.size < g.init.length then 9
 else if 200 < words + g.size then 10
 else 0
def namesG (u : UniL) (k : Nat) : List ByteArray := (u.globals.take k).map (·.name)
def namesF (u : UniL) (k : Nat) : List ByteArray := u.globals.map (·.name) ++ (u.funcs.take k).map (·.name)
def gloI (u : UniL) (i : Nat) : Int := match u.globals[i]? with | some g => gloE (namesG u i) (wordsTo u i) g | none => 0
def headI (u : UniL) (i : Nat) : Int := match u.funcs[i]? with | some f => headE (namesF u i) f | none => 0
def bodyI (u : UniL) (i : Nat) : Int := match u.funcs[i]? with | some f => bodyE u f | none => 0
def mainB (f : FunL) : Bool := f.name.toList == [109, 97, 105, 110]
def mainAt (u : UniL) : Option Nat := (List.range u.funcs.length).find? fun i => match u.funcs[i]? with | some f => mainB f | none => false
def chkO (u : UniL) : Option (Int × Int) :=
 if 10 < u.globals.length ∨ 10 < u.funcs.length then some (2, 0)
 else match firstAt u.globals.length (gloI u) with
 | some r => some r
 | none => match firstAt u.funcs.length (headI u) with
 | some r => some r
 | none => match firstAt u.funcs.length (bodyI u) with
 | some r => some r
 | none => match mainAt u with
 | none => some (6, 0)
 | some m => if 0 < parU u m then some (5, (m : Int)) else none
def chk (u : UniL) : Int × Int := (chkO u).getD (0, 0)
end Go.Proofs.YtdjamkinijhjoaaDoor
