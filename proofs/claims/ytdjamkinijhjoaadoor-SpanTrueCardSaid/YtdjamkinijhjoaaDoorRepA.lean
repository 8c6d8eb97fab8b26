/-
  slices.Repeat of a row of one element: a new row (the shelf's math/bits.Mul laid for this program).
-/
import Derived.Shelf.Bits.Mul64
import Derived.WalkKit
import Derived.WalkSpells
import Derived.WalkLawsBesides
import Derived.Test.YtdjamkinijhjoaaDoorJSsaA
namespace Go.Proofs
open Go.Shelf Go.RowKit Go.Lib
def Tryd.lays212_ren : Go.Shelf.Ren := ⟨fun | 212 => 104 | 263 => 131 | 264 => 132 | n => n, fun | 46 => 162 | 51 => 188 | 53 => 191 | 146 => 189 | 148 => 192 | n => n, fun | n => n⟩
theorem Tryd.lays212 : Go.Proofs.Lays.n212 Tryd.prog Tryd.lays212_ren := {
 mixed := by kernel_rfl
 f212 := Tryd.func104.trans (congrArg some (by kernel_rfl))
 f263 := Tryd.func131.trans (congrArg some (by kernel_rfl))
 f264 := Tryd.func132.trans (congrArg some (by kernel_rfl))
 t46 := Tryd.underlying162
 a46 := Tryd.isAgg162
 z46 := Tryd.sizeOf162
 v46 := Tryd.zeroValue162
 t51 := Tryd.underlying188
 a51 := Tryd.isAgg188
 z51 := Tryd.sizeOf188
 v51 := Tryd.zeroValue188
 t53 := Tryd.underlying191
 a53 := Tryd.isAgg191
 z53 := Tryd.sizeOf191
 v53 := Tryd.zeroValue191
 t146 := Tryd.underlying189
 a146 := Tryd.isAgg189
 z146 := Tryd.sizeOf189
 v146 := Tryd.zeroValue189
 t148 := Tryd.underlying192
 a148 := Tryd.isAgg192
 z148 := Tryd.sizeOf192
 v148 := Tryd.zeroValue192 }
end Go.Proofs
namespace Go.Proofs.YtdjamkinijhjoaaDoor
open Go.RowKit Go.Shelf Go.Lib

theorem bitsMul_any (x y : Nat) (hx : x < 18446744073709551616) (hy : y < 18446744073709551616) (w : World) :
  Calls Tryd.prog 104 #[.int .u64 x, .int .u64 y] w fun e w' => e = .returned (.tuple #[.int .u64 ((x * y / 18446744073709551616 : Nat) : Int), .int .u64 ((x * y % 18446744073709551616 : Nat) : Int)]) ∧ w' = w :=
 Any.bits_Mul Tryd.lays212 x y hx hy w

theorem run_copy_rowN {P : Program} (w : World) (dT sT ty elem : TypeId) (g o dLen dCap size : Nat) (a : Addr) (sLen sCap : Nat) (cur : Array Value) (t : TypeId) (cs : List Value)
  (hu : P.underlying dT = some (.slice elem)) (hs : (P.info? elem).map (·.size) = some size)
  (hg : w.heap[g]? = some (.cells cur t (0, 0))) (hn : cs.length = Nat.min sLen dLen * size)
  (hsrc : ∀ j v, cs[j]? = some v → w.cell? (a.add j) = some v) (hfit : o + cs.length ≤ cur.size) (h1 : ∀ v ∈ cs, v.oneCell' = true) :
  (Builtin.copy_ #[dT, sT] ty #[.slice (some ⟨g, o, none⟩) dLen dCap, .slice (some a) sLen sCap]).run P w =
   .ok (goInt (Nat.min sLen dLen : Nat)) (w.setRow g (cur.toList.take o ++ cs ++ cur.toList.drop (o + cs.length)).toArray) := by
 have hl := run_loadCells_list (P := P) w a cs hsrc
 have hst := run_storeCells_at P g o t cs 0 cur w hg (by simpa using hfit) h1
 cases hq : P.info? elem with
 | none => simp [hq] at hs
 | some i =>
  have hi : i.size = size := by simpa [hq] using hs
  simp [Builtin.copy_, run_underlying hu, Builtin.lenOf, Builtin.firstCells, sizeOf, typeInfo, hq, hi, ← hn, hl, hst]

theorem addr_addO (b o j : Nat) : (⟨b, o, none⟩ : Addr).add j = ⟨b, o + j, none⟩ := by unfold Addr.add; split <;> simp_all
def firstZ (z : Int) (m : Nat) (j : Nat) : Value := if j < m then .int .i64 z else .int .i64 0

theorem run_copy_more {P : Program} (w : World) (dT sT ty elem : TypeId) (g size N m c dLen dCap sLen sCap : Nat) (a : Addr) (t : TypeId) (z : Int)
  (hu : P.underlying dT = some (.slice elem)) (hs : (P.info? elem).map (·.size) = some size)
  (hg : w.rowIs g t N (firstZ z m)) (hn : c = Nat.min sLen dLen * size) (hsrc : ∀ j, j < c → w.cell? (a.add j) = some (.int .i64 z)) (hfit : m + c ≤ N) :
  ∃ w', (Builtin.copy_ #[dT, sT] ty #[.slice (some ⟨g, m, none⟩) dLen dCap, .slice (some a) sLen sCap]).run P w = .ok (goInt (Nat.min sLen dLen : Nat)) w' ∧ w'.rowIs g t N (firstZ z (m + c)) ∧ Kept (fun k => k = g) w w' := by
 obtain ⟨cur, h1, h2, h3⟩ := hg
 have hr := run_copy_rowN (P := P) w dT sT ty elem g m dLen dCap size a sLen sCap cur t (List.replicate c (.int .i64 z)) hu hs h1 (by simpa using hn)
  (fun j v hj => by
   rw [List.getElem?_replicate] at hj
   split at hj
   ·next hlt =>
    injection hj with hj
    rw [← hj]
    exact hsrc j hlt
   ·cases hj)
  (by simp; omega) (fun v hv => by rw [(List.mem_replicate.1 hv).2]; rfl)
 refine ⟨_, hr, ⟨_, setRow_heap w g cur _ t _ h1, by simp; omega, fun i hi => ?_⟩, ⟨rfl, rfl, rfl, by simp [World.setRow], fun k _ hn => setRow_other w g k _ (fun e => hn e)⟩⟩
 have hcl : cur.toList.length = N := by simpa using h2
 rw [List.getElem?_toArray, List.append_assoc]
 unfold firstZ
 by_cases a1 : i < m
 ·rw [if_pos (by omega), List.getElem?_append_left (by simp; omega), List.getElem?_take_of_lt a1, Array.getElem?_toList, h3 i hi]
  unfold firstZ
  rw [if_pos a1]
 ·rw [List.getElem?_append_right (by simp; omega)]
  have e1 : (cur.toList.take m).length = m := by simp; omega
  rw [e1]
  by_cases a2 : i < m + c
  ·rw [if_pos a2, List.getElem?_append_left (by simp; omega), List.getElem?_replicate, if_pos (by omega)]
  ·rw [if_neg a2, List.getElem?_append_right (by simp; omega), List.length_replicate, List.getElem?_drop]
   have e2 : m + c + (i - m - c) = i := by omega
   rw [e2, Array.getElem?_toList, h3 i hi]
   unfold firstZ
   rw [if_neg a1]
theorem exec_copy {P : Program} {o : Oper} {a : Act} {w w' : World} {d s : Operand} {t t' : TypeId} {u v v' : Value} (ho : o.op = .call { callee := .builtin .copy, args := #[d, s], argTypes := #[t, t'] }) (hd : a.eval d = v) (hs : a.eval s = u) (h : (Builtin.copy_ #[t, t'] o.type #[v, u]).run P w = .ok v' w') :
  (execOp a.eval o).run P w = .ok (.value v') w' := by
 unfold execOp
 simp only [ho, resolve, invoke, builtin, Sem.run_bind, Sem.run_pure, Result.andThen_ok, List.map_toArray, List.map_cons, List.map_nil, hd, hs, h]
theorem infoRep_int : (Tryd.prog.info? 3).map (fun i => (i.zero, i.size, i.bytes)) = some (some (.int .i64 0), 1, 8) := by kernel_rfl
theorem sizeRep_int : (Tryd.prog.info? 3).map (·.size) = some 1 := by kernel_rfl
theorem underRep_int : Tryd.prog.underlying 46 = some (.slice 3) := by kernel_rfl
set_option maxRecDepth 100000 in
set_option maxHeartbeats 2000000 in
theorem repeat_int (xb xo xc : Nat) (z : Int) (n : Nat) (w : World) (hn : n ≤ 1000000) (hx : ∀ j, j < 1 → w.cell? ⟨xb, xo + j, none⟩ = some (.int .i64 z)) :
  Calls Tryd.prog 101 #[.slice (some ⟨xb, xo, none⟩) 1 xc, .int .i64 n] w fun e w' => e = .returned (.slice (some ⟨w.heap.size, 0, none⟩) n n) ∧ w'.rowIs w.heap.size 3 n (fun _ => .int .i64 z) ∧ Below w.heap.size w w' := by
 obtain ⟨i1, k1, k2, k3, k4⟩ := info_parts infoRep_int
 have hmk := run_make_row 46 3 i1 (.int .i64 0) underRep_int k1 k2 k3 rfl .i64 .i64 n (by rw [k4]; omega) (by omega)
 have hrow := World.rowIs_made w (.int .i64 0) n 3
 have hbm := bitsMul_any 1 n (by omega) (by omega)
 have e0 : 1 * n / 18446744073709551616 = 0 := by omega
 have e1 : 1 * n % 18446744073709551616 = n := by omega
 have eu1 : IntKind.u64.wrap 1 = 1 := by decide
 have eun : IntKind.u64.wrap (n : Int) = n := by rw [IntKind.wrap_u64]; omega
 have ein : IntKind.i64.wrap (n : Int) = n := by rw [IntKind.wrap_i64]; omega
 simp only [e0, e1] at hbm
 have HX := hidI hx
 have HR := hidI hrow
 clear hx hrow e0 e1
 obtain ⟨q, hq, hqn, hq1, hq0⟩ : ∃ q, q = Nat.min 1 n ∧ q ≤ n ∧ q ≤ 1 ∧ (q = 0 → n = 0) := ⟨Nat.min 1 n, rfl, Nat.min_le_right _ _, Nat.min_le_left _ _, fun h => by
  have : Nat.min 1 n = 1 ∨ Nat.min 1 n = n := by
   rcases Nat.le_total 1 n with a | a
   ·exact .inl (Nat.min_eq_left a)
   ·exact .inr (Nat.min_eq_right a)
  omega⟩
 obtain ⟨w2, hcp, hr2, hk2⟩ := run_copy_more (P := Tryd.prog) (w.alloc (.cells (madeCells #[.int .i64 0] n) 3)) 46 46 3 3 w.heap.size 1 n 0 q n n 1 xc ⟨xb, xo, none⟩ 3 z underRep_int sizeRep_int
  (HR.out.congr fun i _ => by unfold firstZ; rw [if_neg (by omega)]) (by rw [← hq]; simp) (fun j hj => by
   have h1 := HX.out j (by omega)
   rw [addr_addO]
   exact (World.cell?_of_block (Below.heap_alloc w _ _ (lt_of_cell h1))).trans h1) (by omega)
 rw [← hq] at hcp
 have hgi : goInt (q : Nat) = .int .i64 (q : Int) := rfl
 rw [hgi] at hcp
 have HR2 := hidI hr2
 have HB2 : Hid (Below w.heap.size w w2) := hidI (Below.trans ((Below.refl _ _).alloc (Nat.le_refl _) _) (hk2.below (by simp) (fun i hi => by omega)))
 have HQ := hidI hq
 clear hr2 hk2 hq HR HX hgi
 go_enter Tryd.func101, Tryd.ntmps101
 go_wp2_with fail
 refine (hbm _).mono ?_
 rintro e w' ⟨rfl, hw⟩
 rw [hw]
 clear hw
 go_wp2_with fail
 clear hcp hmk hbm
 go_loopw [8] (fun i wr => ∃ m : Nat, m ≤ n ∧ (m = 0 → n = 0) ∧ i = .int .i64 m ∧ wr.rowIs w.heap.size 3 n (firstZ z m) ∧ Below w.heap.size w wr) (fun i _ => n - (intOf i).toNat)
 case atStart => exact ⟨q, hqn, hq0, rfl, by simpa using HR2.out, HB2.out⟩
 case round =>
  clear HR2 HB2 HQ hqn hq1 hq0
  obtain ⟨m, hm, hm0, rfl, hR, hb⟩ := hrel
  have HR := hidI hR
  have HB := hidI hb
  clear hR hb
  by_cases hlt : m < n
  ·have hlt2 : (m : Int) < n := by omega
   have hm1 : 1 ≤ m := by omega
   obtain ⟨c, hc⟩ : ∃ c, c = Nat.min m (n - m) := ⟨_, rfl⟩
   have hc1 : c ≤ m := by rw [hc]; exact Nat.min_le_left _ _
   have hc2 : c ≤ n - m := by rw [hc]; exact Nat.min_le_right _ _
   have hc3 : 1 ≤ c := by rw [hc]; exact Nat.le_min.2 ⟨hm1, by omega⟩
   have hne : ¬ n = m := by omega
   have hwr : IntKind.i64.wrap ((m : Int) + c) = (m : Int) + c := by rw [IntKind.wrap_i64]; omega
   have HC := hidI hc
   clear hc
   go_wp2_with fail
   refine wp_region_calm (S := fun _ => True) (by kernel_rfl) 9 ?_
   refine takeZ 0 38 (.int .i64 m) rfl rfl (by kernel_rfl) (by kernel_rfl) (by kernel_rfl) (by kernel_rfl) (fun _ _ _ h => h) (Or.inl ⟨by rfl, fun w' h => ?_⟩) trivial ?_
   ·go_simp
   refine takeZ 1 39 (.slice (some ⟨w.heap.size, 0, none⟩) n n) rfl rfl (by kernel_rfl) (by kernel_rfl) (by kernel_rfl) (by kernel_rfl) (fun _ _ _ h => h) (Or.inl ⟨by rfl, fun w' h => ?_⟩) trivial ?_
   ·go_simp
   refine takeZ 2 40 (.int .i64 m) rfl rfl (by kernel_rfl) (by kernel_rfl) (by kernel_rfl) (by kernel_rfl) (fun _ _ _ h => h) (Or.inl ⟨by rfl, fun w' h => ?_⟩) trivial ?_
   ·go_simp
   refine takeZ 3 41 (.slice (some ⟨w.heap.size, m, none⟩) (n - m) (n - m)) rfl rfl (by kernel_rfl) (by kernel_rfl) (by kernel_rfl) (by kernel_rfl) (fun _ _ _ h => h) (Or.inl ⟨by rfl, fun w' h => ?_⟩) trivial ?_
   ·go_simp
   refine takeZ 4 42 (.slice (some ⟨w.heap.size, 0, none⟩) n n) rfl rfl (by kernel_rfl) (by kernel_rfl) (by kernel_rfl) (by kernel_rfl) (fun _ _ _ h => h) (Or.inl ⟨by rfl, fun w' h => ?_⟩) trivial ?_
   ·go_simp
   refine takeZ 5 43 (.int .i64 m) rfl rfl (by kernel_rfl) (by kernel_rfl) (by kernel_rfl) (by kernel_rfl) (fun _ _ _ h => h) (Or.inl ⟨by rfl, fun w' h => ?_⟩) trivial ?_
   ·go_simp
   refine takeZ 6 44 (.slice (some ⟨w.heap.size, 0, none⟩) m n) rfl rfl (by kernel_rfl) (by kernel_rfl) (by kernel_rfl) (by kernel_rfl) (fun _ _ _ h => h) (Or.inl ⟨by rfl, fun w' h => ?_⟩) trivial ?_
   ·go_simp
   obtain ⟨w2, hcp, hr2, hk2⟩ := run_copy_more (P := Tryd.prog) wr.drew 46 46 3 3 w.heap.size 1 n m c (n - m) (n - m) m n ⟨w.heap.size, 0, none⟩ 3 z underRep_int sizeRep_int HR.out (by rw [← HC.out]; simp) (fun j hj => by
    rw [addr_addO, Nat.zero_add]
    rw [HR.out.drew.cell (i := j) (by omega)]
    unfold firstZ
    rw [if_pos (by omega)]) (by omega)
   rw [← HC.out] at hcp
   refine stepZ_1 (i := 7) (by kernel_rfl) (stepZ_to 45 (.int .i64 c) w2 rfl rfl rfl (exec_copy rfl (by go_simp) (by go_simp) hcp) trivial ?_)
   refine stepZ_1 (i := 8) (by kernel_rfl) (stepZ_to 46 (.int .i64 ((m + c : Nat) : Int)) w2 rfl rfl rfl (by go_simp) trivial ?_)
   refine stepZ_1 (i := 9) (by kernel_rfl) (stepZ_to 8 (.int .i64 ((m + c : Nat) : Int)) w2 rfl rfl rfl (by go_simp) trivial (wpAnyZ_done (by kernel_rfl) ?_ _))
   show Exit.inBlock 1 _ Exit.normal _ _
   have HR3 := hidI hr2
   have HB3 : Hid (Below w.heap.size w w2) := hidI (HB.out.trans ((Below.refl _ _).drew.trans (hk2.below (B := w.heap.size) (by exact HB.out.size) (fun i hi => by omega))))
   clear hr2 hk2 hcp
   refine ⟨⟨.int .i64 ((m + c : Nat) : Int), .int .i64 m, .slice (some ⟨w.heap.size, 0, none⟩) n n, .int .i64 n, .bool true, .int .i64 m, .slice (some ⟨w.heap.size, 0, none⟩) n n, .int .i64 m, .slice (some ⟨w.heap.size, m, none⟩) (n - m) (n - m), .slice (some ⟨w.heap.size, 0, none⟩) n n, .int .i64 m, .slice (some ⟨w.heap.size, 0, none⟩) m n, .int .i64 c, .int .i64 ((m + c : Nat) : Int), ⟨m + c, by omega, by omega, rfl, HR3.out, HB3.out⟩, ?_⟩, ?_⟩
   ·go_simp
   ·go_simp
    simp [intOf]; omega
  ·go_wp2
   go_ret
   obtain rfl : m = n := by omega
   exact ⟨rfl, HR.out.congr fun i hi => by unfold firstZ; rw [if_pos hi], HB.out⟩

theorem infoRep_wr : (Tryd.prog.info? 122).map (fun i => (i.zero, i.size, i.bytes)) = some (some (.agg #[.int .i64 0, .int .i64 0]), 2, 16) := by kernel_rfl
theorem sizeRep_wr : (Tryd.prog.info? 122).map (·.size) = some 2 := by kernel_rfl
theorem underRep_wr : Tryd.prog.underlying 119 = some (.slice 122) := by kernel_rfl
set_option maxRecDepth 100000 in
set_option maxHeartbeats 2000000 in
theorem repeat_wr (xb xo xc : Nat) (z : Int) (n : Nat) (w : World) (hn : n ≤ 1000000) (hx : ∀ j, j < 2 → w.cell? ⟨xb, xo + j, none⟩ = some (.int .i64 z)) :
  Calls Tryd.prog 55 #[.slice (some ⟨xb, xo, none⟩) 1 xc, .int .i64 n] w fun e w' => e = .returned (.slice (some ⟨w.heap.size, 0, none⟩) n n) ∧ w'.rowIs w.heap.size 122 (n * 2) (fun _ => .int .i64 z) ∧ Below w.heap.size w w' := by
 obtain ⟨i1, k1, k2, k3, k4⟩ := info_parts infoRep_wr
 have hmk : ∀ w, (Instr.makeSlice 119 (.int .i64 (n : Int)) (.int .i64 (n : Int))).run Tryd.prog w = .ok (.slice (some ⟨w.heap.size, 0, none⟩) n n) (w.alloc (.cells (madeCells #[.int .i64 0, .int .i64 0] (n * 2)) 122)) := fun w => by
  have hr := run_make (P := Tryd.prog) w 119 122 i1 _ underRep_wr k1 k2 .i64 .i64 n n (by omega) (Int.le_refl _) (by rw [k4]; omega) (by omega)
  simp only [Int.toNat_natCast, k3] at hr
  exact hr
 have hrow : (w.alloc (.cells (madeCells #[.int .i64 0, .int .i64 0] (n * 2)) 122)).rowIs w.heap.size 122 (n * 2) (fun _ => .int .i64 0) :=
  ⟨_, heap_here w _, by rw [size_madeCells], fun i hi => by
   have h2 : i % 2 = 0 ∨ i % 2 = 1 := by omega
   rcases h2 with h2 | h2 <;> simp [madeCells, hi, h2]⟩
 have hbm := bitsMul_any 1 n (by omega) (by omega)
 have e0 : 1 * n / 18446744073709551616 = 0 := by omega
 have e1 : 1 * n % 18446744073709551616 = n := by omega
 have eu1 : IntKind.u64.wrap 1 = 1 := by decide
 have eun : IntKind.u64.wrap (n : Int) = n := by rw [IntKind.wrap_u64]; omega
 have ein : IntKind.i64.wrap (n : Int) = n := by rw [IntKind.wrap_i64]; omega
 simp only [e0, e1] at hbm
 have HX := hidI hx
 have HR := hidI hrow
 clear hx hrow e0 e1
 obtain ⟨q, hq, hqn, hq1, hq0⟩ : ∃ q, q = Nat.min 1 n ∧ q ≤ n ∧ q ≤ 1 ∧ (q = 0 → n = 0) := ⟨Nat.min 1 n, rfl, Nat.min_le_right _ _, Nat.min_le_left _ _, fun h => by
  have : Nat.min 1 n = 1 ∨ Nat.min 1 n = n := by
   rcases Nat.le_total 1 n with a | a
   ·exact .inl (Nat.min_eq_left a)
   ·exact .inr (Nat.min_eq_right a)
  omega⟩
 obtain ⟨w2, hcp, hr2, hk2⟩ := run_copy_more (P := Tryd.prog) (w.alloc (.cells (madeCells #[.int .i64 0, .int .i64 0] (n * 2)) 122)) 119 119 3 122 w.heap.size 2 (n * 2) 0 (q * 2) n n 1 xc ⟨xb, xo, none⟩ 122 z underRep_wr sizeRep_wr
  (HR.out.congr fun i _ => by unfold firstZ; rw [if_neg (by omega)]) (by rw [← hq]) (fun j hj => by
   have h1 := HX.out j (by omega)
   rw [addr_addO]
   exact (World.cell?_of_block (Below.heap_alloc w _ _ (lt_of_cell h1))).trans h1) (by omega)
 rw [← hq] at hcp
 have hgi : goInt (q : Nat) = .int .i64 (q : Int) := rfl
 rw [hgi] at hcp
 have HR2 := hidI hr2
 have HB2 : Hid (Below w.heap.size w w2) := hidI (Below.trans ((Below.refl _ _).alloc (Nat.le_refl _) _) (hk2.below (by simp) (fun i hi => by omega)))
 have HQ := hidI hq
 clear hr2 hk2 hq HR HX hgi
 go_enter Tryd.func55, Tryd.ntmps55
 go_wp2_with fail
 refine (hbm _).mono ?_
 rintro e w' ⟨rfl, hw⟩
 rw [hw]
 clear hw
 go_wp2_with fail
 clear hcp hmk hbm
 go_loopw [8] (fun i wr => ∃ m : Nat, m ≤ n ∧ (m = 0 → n = 0) ∧ i = .int .i64 m ∧ wr.rowIs w.heap.size 122 (n * 2) (firstZ z (m * 2)) ∧ Below w.heap.size w wr) (fun i _ => n - (intOf i).toNat)
 case atStart => exact ⟨q, hqn, hq0, rfl, by simpa using HR2.out, HB2.out⟩
 case round =>
  clear HR2 HB2 HQ hqn hq1 hq0
  obtain ⟨m, hm, hm0, rfl, hR, hb⟩ := hrel
  have HR := hidI hR
  have HB := hidI hb
  clear hR hb
  by_cases hlt : m < n
  ·have hlt2 : (m : Int) < n := by omega
   have hm1 : 1 ≤ m := by omega
   obtain ⟨c, hc⟩ : ∃ c, c = Nat.min m (n - m) := ⟨_, rfl⟩
   have hc1 : c ≤ m := by rw [hc]; exact Nat.min_le_left _ _
   have hc2 : c ≤ n - m := by rw [hc]; exact Nat.min_le_right _ _
   have hc3 : 1 ≤ c := by rw [hc]; exact Nat.le_min.2 ⟨hm1, by omega⟩
   have hne : ¬ n = m := by omega
   have hwr : IntKind.i64.wrap ((m : Int) + c) = (m : Int) + c := by rw [IntKind.wrap_i64]; omega
   have HC := hidI hc
   clear hc
   go_wp2_with fail
   refine wp_region_calm (S := fun _ => True) (by kernel_rfl) 9 ?_
   refine takeZ 0 38 (.int .i64 m) rfl rfl (by kernel_rfl) (by kernel_rfl) (by kernel_rfl) (by kernel_rfl) (fun _ _ _ h => h) (Or.inl ⟨by rfl, fun w' h => ?_⟩) trivial ?_
   ·go_simp
   refine takeZ 1 39 (.slice (some ⟨w.heap.size, 0, none⟩) n n) rfl rfl (by kernel_rfl) (by kernel_rfl) (by kernel_rfl) (by kernel_rfl) (fun _ _ _ h => h) (Or.inl ⟨by rfl, fun w' h => ?_⟩) trivial ?_
   ·go_simp
   refine takeZ 2 40 (.int .i64 m) rfl rfl (by kernel_rfl) (by kernel_rfl) (by kernel_rfl) (by kernel_rfl) (fun _ _ _ h => h) (Or.inl ⟨by rfl, fun w' h => ?_⟩) trivial ?_
   ·go_simp
   refine takeZ 3 41 (.slice (some ⟨w.heap.size, (m * 2), none⟩) (n - m) (n - m)) rfl rfl (by kernel_rfl) (by kernel_rfl) (by kernel_rfl) (by kernel_rfl) (fun _ _ _ h => h) (Or.inl ⟨by rfl, fun w' h => ?_⟩) trivial ?_
   ·go_simp
   refine takeZ 4 42 (.slice (some ⟨w.heap.size, 0, none⟩) n n) rfl rfl (by kernel_rfl) (by kernel_rfl) (by kernel_rfl) (by kernel_rfl) (fun _ _ _ h => h) (Or.inl ⟨by rfl, fun w' h => ?_⟩) trivial ?_
   ·go_simp
   refine takeZ 5 43 (.int .i64 m) rfl rfl (by kernel_rfl) (by kernel_rfl) (by kernel_rfl) (by kernel_rfl) (fun _ _ _ h => h) (Or.inl ⟨by rfl, fun w' h => ?_⟩) trivial ?_
   ·go_simp
   refine takeZ 6 44 (.slice (some ⟨w.heap.size, 0, none⟩) m n) rfl rfl (by kernel_rfl) (by kernel_rfl) (by kernel_rfl) (by kernel_rfl) (fun _ _ _ h => h) (Or.inl ⟨by rfl, fun w' h => ?_⟩) trivial ?_
   ·go_simp
   obtain ⟨w2, hcp, hr2, hk2⟩ := run_copy_more (P := Tryd.prog) wr.drew 119 119 3 122 w.heap.size 2 (n * 2) (m * 2) (c * 2) (n - m) (n - m) m n ⟨w.heap.size, 0, none⟩ 122 z underRep_wr sizeRep_wr HR.out (by rw [← HC.out]) (fun j hj => by
    rw [addr_addO, Nat.zero_add]
    rw [HR.out.drew.cell (i := j) (by omega)]
    unfold firstZ
    rw [if_pos (by omega)]) (by omega)
   rw [← HC.out] at hcp
   refine stepZ_1 (i := 7) (by kernel_rfl) (stepZ_to 45 (.int .i64 c) w2 rfl rfl rfl (exec_copy rfl (by go_simp) (by go_simp) hcp) trivial ?_)
   refine stepZ_1 (i := 8) (by kernel_rfl) (stepZ_to 46 (.int .i64 ((m + c : Nat) : Int)) w2 rfl rfl rfl (by go_simp) trivial ?_)
   refine stepZ_1 (i := 9) (by kernel_rfl) (stepZ_to 8 (.int .i64 ((m + c : Nat) : Int)) w2 rfl rfl rfl (by go_simp) trivial (wpAnyZ_done (by kernel_rfl) ?_ _))
   show Exit.inBlock 1 _ Exit.normal _ _
   have HR3 := hidI hr2
   have HB3 : Hid (Below w.heap.size w w2) := hidI (HB.out.trans ((Below.refl _ _).drew.trans (hk2.below (B := w.heap.size) (by exact HB.out.size) (fun i hi => by omega))))
   clear hr2 hk2 hcp
   refine ⟨⟨.int .i64 ((m + c : Nat) : Int), .int .i64 m, .slice (some ⟨w.heap.size, 0, none⟩) n n, .int .i64 n, .bool true, .int .i64 m, .slice (some ⟨w.heap.size, 0, none⟩) n n, .int .i64 m, .slice (some ⟨w.heap.size, (m * 2), none⟩) (n - m) (n - m), .slice (some ⟨w.heap.size, 0, none⟩) n n, .int .i64 m, .slice (some ⟨w.heap.size, 0, none⟩) m n, .int .i64 c, .int .i64 ((m + c : Nat) : Int), ⟨m + c, by omega, by omega, rfl, (by rw [Nat.add_mul]; exact HR3.out), HB3.out⟩, ?_⟩, ?_⟩
   ·go_simp
   ·go_simp
    simp [intOf]; omega
  ·go_wp2
   go_ret
   obtain rfl : m = n := by omega
   exact ⟨rfl, HR.out.congr fun i hi => by unfold firstZ; rw [if_pos hi], HB.out⟩
end Go.Proofs.YtdjamkinijhjoaaDoor
