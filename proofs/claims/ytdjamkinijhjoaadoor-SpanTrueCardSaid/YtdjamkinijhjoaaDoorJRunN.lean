/-
  The contract of code.Ahead, of a fine unit.
  Of no program: zeros appended to a row of the call's own; an append in a region that draws its order, by what its run comes to.
  What run.Counts sets up: which function is main; the memory out of the globals.
-/
import Derived.WalkKit
import Derived.WalkSpells
import Derived.WalkLawsBesides
import Derived.BigQuiet
import Derived.Deep.QuietTactic
import Derived.Deep.RegionHeld3
import Derived.Test.YtdjamkinijhjoaaDoorJDomA
import Derived.Test.YtdjamkinijhjoaaDoorJRunK
import Derived.Lib.AppendZerosOnto
import Derived.Deep.AppendLies
import Derived.Test.YtdjamkinijhjoaaDoorJDatC
import Derived.Deep.RegionLaw
namespace Go.Proofs.YtdjamkinijhjoaaDoor
open Go.RowKit

set_option maxRecDepth 100000 in
set_option maxHeartbeats 1000000 in
theorem aheadX_ok (u : UniL) (gp fp : Option Addr) (gc fc : Nat) (w : World) (hgl : u.globals.length * 48 ≤ 140737488351232) (hG : SliceAt w 3 (GloR w) gp u.globals) (hfl : u.funcs.length * 56 ≤ 140737488351232) (hF : SliceAt w 4 (FunR w) fp u.funcs) (hw0 : Ways w) (h : (chk u).1 = 0) {k : Nat} (hk : k < u.funcs.length) :
  Calls Tryd.prog 80 #[.agg #[.slice gp u.globals.length gc, .slice fp u.funcs.length fc], .int .i64 k] w fun e w' => ∃ T B f, e = .returned (.tuple #[.slice (some ⟨T, 0, none⟩) (fnU u k).blocks.length (fnU u k).blocks.length, .agg #[.int .i64 0, .int .i64 0]]) ∧ w.heap.size ≤ T ∧ Rows2 w' B T (fnU u k).blocks.length 46 3 (waysL (fnU u k)) f ∧ Below w.heap.size w w' := by
 have HG := hidI hG
 have HF := hidI hF
 have HW := hidI hw0
 have HK := hidI (chk_ok h).2
 have hne : ((chk u).1 == 0 && (chk u).2 == 0) = true := by rw [(chk_ok h).1]; rfl
 have hq : ∀ w, (binOp .neq 28 (.agg #[.int .i64 (chk u).1, .int .i64 (chk u).2]) (.agg #[.int .i64 0, .int .i64 0])).run Tryd.prog w = .ok (.bool false) w := fun w => by rw [run_neFault, hne]; rfl
 have hwt : wthn (k : Int) 0 ((u.funcs.length : Int) - 1) = true := by unfold wthn; simp only [decide_eq_true_eq]; omega
 have HWt := hidI hwt
 have hnf := (chk_ok h).2.nf
 have k0 : (0 : Int) ≤ (k : Int) := by omega
 have k1 : (k : Int) < u.funcs.length := by omega
 clear hG hF hw0 h hne hwt
 go_enter Tryd.func80, Tryd.ntmps80
 go_wp2_with fail
 refine (check_any u _ _ _ _ _ hgl ?_ hfl ?_ ?_).mono ?_
 ·exact glosMono HG.out (by repeat (first | (with_reducible first | exact bR _ _ | exact bH ‹_› | refine bD ?_ | refine bN ?_ _ | refine bS ?_ ?_ _ | refine bA ?_ ?_ _ | refine bT hb3 ?_ ?_ | refine bT hb5 ?_ ?_ | refine bT hb4 ?_ ?_) | omega | (simp; omega) | simp))
 ·exact funsMono HF.out (by repeat (first | (with_reducible first | exact bR _ _ | exact bH ‹_› | refine bD ?_ | refine bN ?_ _ | refine bS ?_ ?_ _ | refine bA ?_ ?_ _ | refine bT hb3 ?_ ?_ | refine bT hb5 ?_ ?_ | refine bT hb4 ?_ ?_) | omega | (simp; omega) | simp))
 ·exact HW.out.below (by repeat (first | (with_reducible first | exact bR _ _ | exact bH ‹_› | refine bD ?_ | refine bN ?_ _ | refine bS ?_ ?_ _ | refine bA ?_ ?_ _ | refine bT hb3 ?_ ?_ | refine bT hb5 ?_ ?_ | refine bT hb4 ?_ ?_) | omega | (simp; omega) | simp))
 rintro e w2 ⟨rfl, hb2⟩
 have HB1 : Hid (Below w.heap.size w w2) := Below.trans (by repeat (first | (with_reducible first | exact bR _ _ | exact bH ‹_› | refine bD ?_ | refine bN ?_ _ | refine bS ?_ ?_ _ | refine bA ?_ ?_ _ | refine bT hb3 ?_ ?_ | refine bT hb5 ?_ ?_ | refine bT hb4 ?_ ?_) | omega | (simp; omega) | simp)) (hb2.mono (by simp; omega))
 have hR := heap_below hb2 (k := w.heap.size + 1) (by simp) (heap_at (w := w.alloc (.cells #[.slice gp u.globals.length gc, .slice fp u.funcs.length fc] 25)) (o := .cells #[.int .i64 0, .int .i64 0] 28) (by simp))
 obtain ⟨hcc, hcf⟩ := blk hR
 have hz : w.heap.size + 1 < w2.heap.size := by have := hb2.size; simp at this; omega
 have hc0 := fun o => (blk (heap_below hb2 (k := w.heap.size) (by simp; omega) (heap_step (heap_here w _)))).1 o
 have c0 := hc0 1
 have hz2 : w.heap.size < w2.heap.size := by omega
 obtain ⟨fb, fo, bp, bc, hfp, e1, e2, e3, e4, _, _, _, hbl, hB⟩ := funGet HF.out HB1.out hk
 subst hfp
 have zf := lt_of_cell e1
 clear hb2 hc0
 have HR := hidI hR
 clear hR
 go_wp2_with fail
 refine (within_any _ _ _ _).mono ?_
 rw [HWt.out]
 rintro e w3 ⟨rfl, rfl⟩
 go_wp2_with fail
 obtain ⟨bb, bo, rfl⟩ : ∃ bb bo, bp = some ⟨bb, bo, none⟩ := by
  rcases hB with h0 | ⟨bb, bo, hp, _⟩
  ·have := (HK.out.fn hk).2.2.1.1
   rw [h0] at this
   simp at this
  ·exact ⟨bb, bo, hp⟩
 have hz3 : w.heap.size < w2.heap.size := by omega
 have HKB := hidI (HK.out.bodyZ hk)
 have hnb := (HK.out.fn hk).2.2.1.2
 refine (ahead_any _ _ _ _ _ _ _ (tosL u.funcs[k]) _ hnb (fun i hi => blkAt_of hB (by repeat (first | (with_reducible first | exact bR _ _ | exact bH ‹_› | refine bD ?_ | refine bN ?_ _ | refine bS ?_ ?_ _ | refine bA ?_ ?_ _ | refine bT hb3 ?_ ?_ | refine bT hb5 ?_ ?_ | refine bT hb4 ?_ ?_) | omega | (simp; omega) | simp)) i hi) (fun i hi => ?_)).mono ?_
 ·rw [tos_getD _ i hi]
  exact endE_zero (bodyE_end HKB.out hi)
 rintro e w3 ⟨⟨F, rfl, hR2⟩, hb3⟩
 have hR3 := heap_below hb3 (k := w.heap.size + 1) (by simp; omega) (heap_step HR.out)
 obtain ⟨hcc3, hcf3⟩ := blk hR3
 have hz4 : w.heap.size + 1 < w3.heap.size := (Array.getElem?_eq_some_iff.1 hR3).1
 have es : (w2.alloc (.cells #[.int .i64 (chk u).1, .int .i64 (chk u).2] 28)).heap.size = w2.heap.size + 1 := by simp
 rw [es] at hR2
 have HR2 := hidI hR2
 have HB3 : Hid (Below w.heap.size w w3) := HB1.out.trans (Below.trans (((Below.refl _ _).alloc (Nat.le_refl _) _).mono HB1.out.size) (hb3.mono (by simp; omega)))
 clear hR2 hb3 hcc hcf hB es
 go_wp2_with fail
 rw [setCell_same hR3 rfl, setCell_same hR3 rfl]
 rw [fnU_get hk]
 refine bodyPost_ret (v := .tuple #[.slice (some ⟨w2.heap.size + 1 + 1, 0, none⟩) u.funcs[k].blocks.length u.funcs[k].blocks.length, .agg #[.int .i64 0, .int .i64 0]]) ?_ rfl ⟨_, _, F, rfl, ?_, HR2.out, HB3.out⟩
 ·simp [results, Tryd.results80, go_sem, hcc3]
 ·omega
end Go.Proofs.YtdjamkinijhjoaaDoor
namespace Go.Proofs.YtdjamkinijhjoaaDoor
open Go.RowKit

theorem zeroCells_int (k : Nat) : (Builtin.zeroCells #[Value.int .i64 0] k).toList = List.replicate k (Value.int .i64 0) := by
 apply List.ext_getElem
 ·simp [Builtin.zeroCells]
 ·intro i h1 h2
  simp [Builtin.zeroCells, Nat.mod_one]
theorem run_zeros_room {P : Program} (w : World) (t tn ty e : TypeId) (i : TypeInfo) (kq kn : IntKind) (ht : P.underlying t = some (.slice e)) (htn : P.underlying tn = some (.int kn)) (hi : P.info? e = some i) (hz : i.zero = some (.int .i64 0)) (hs : i.size = 1)
  (g n cap k : Nat) (cur : Array Value) (hg : w.heap[g]? = some (.cells cur e (0, 0))) (hk : 0 < k) (hroom : n + k ≤ cap) (hfit : n + k ≤ cur.size) (h63 : (k : Int) ≤ 9223372036854775807) (h48 : k * i.bytes ≤ 281474976710656) :
  (Builtin.append_ #[t, tn] ty #[.slice (some ⟨g, 0, none⟩) n cap, .int kq k]).run P w =
   .ok (.slice (some ⟨g, 0, none⟩) (n + k) cap) (w.setRow g (cur.toList.take n ++ List.replicate k (Value.int .i64 0) ++ cur.toList.drop (n + k)).toArray) := by
 have hw : IntKind.i64.wrap (k : Int) = k := by rw [IntKind.wrap_i64]; omega
 have h48i : ¬ (281474976710656 < (k : Int) * (i.bytes : Int)) := by
  rw [← Int.natCast_mul]
  omega
 have hneg : ¬ ((k : Int) < 0) := by omega
 have hst := run_storeCells_at P g n e (List.replicate k (Value.int .i64 0)) 0 cur w hg (by simpa using hfit) (fun v hv => by rw [(List.mem_replicate.1 hv).2]; rfl)
 simp only [Nat.add_zero, List.length_replicate] at hst
 have hk : k ≠ 0 := by omega
 have hzc : (Builtin.zeroCells (Value.int .i64 0).cells k).toList = List.replicate k (Value.int .i64 0) := zeroCells_int k
 simp [Builtin.append_, run_underlying ht, run_underlying htn, Go.sizeOf, typeInfo, zeroValue, hi, hz, hs, asInt, asIntOf, hw, hneg, h48i, hk, hroom, Addr.add_lit, hzc, hst]
theorem run_zeros_none {P : Program} (w : World) (t tn ty e : TypeId) (i : TypeInfo) (kq kn : IntKind) (ht : P.underlying t = some (.slice e)) (htn : P.underlying tn = some (.int kn)) (hi : P.info? e = some i)
  (p : Option Addr) (n cap : Nat) (hn : n ≤ cap) :
  (Builtin.append_ #[t, tn] ty #[.slice p n cap, .int kq 0]).run P w = .ok (.slice p n cap) w := by
 have hw : IntKind.i64.wrap 0 = 0 := by decide
 cases p <;> simp [Builtin.append_, run_underlying ht, run_underlying htn, Go.sizeOf, typeInfo, hi, asInt, asIntOf, storeCells, hn, hw]
theorem run_zeros_own {P : Program} (w : World) (base : Nat) (t tn ty e : TypeId) (i : TypeInfo) (kq kn : IntKind) (ht : P.underlying t = some (.slice e)) (htn : P.underlying tn = some (.int kn)) (hi : P.info? e = some i) (hz : i.zero = some (.int .i64 0)) (hs : i.size = 1) (hb : i.bytes = 8)
  (v : Value) (n k : Nat) (xs : List Value) (hown : w.ownsRow base e 1 v n xs) (h63 : n + k ≤ 1000000) (hbase : base ≤ w.heap.size) :
  ∃ v' w', (Builtin.append_ #[t, tn] ty #[v, .int kq k]).run P w = .ok v' w' ∧ w'.ownsRow base e 1 v' (n + k) (xs ++ List.replicate k (.int .i64 0)) ∧ w.grownBy w' v.ownBlock ∧ (v'.ownBlock = v.ownBlock ∨ v'.ownBlock = some w.heap.size) := by
 have hxl : xs.length = n := by simpa using hown.1
 rcases hown.2 with ⟨rfl, rfl⟩ | ⟨g, cap, cur, rfl, hbg, hg, hnc, hcm, hcs, htake⟩
 ·by_cases hk : k = 0
  ·subst hk
   refine ⟨_, w, run_zeros_none w t tn ty e i kq kn ht htn hi none 0 0 (Nat.le_refl _), by simpa using hown, ⟨rfl, rfl, rfl, Nat.le_refl _, fun _ _ _ => rfl⟩, .inl rfl⟩
  ·have hr := Lib.run_append_nil_zeros (P := P) w t tn ty e i (.int .i64 0) kq kn ht htn hi hz k (by omega) (by omega) (by omega) (by rw [hb]; omega)
   obtain rfl : xs = [] := List.eq_nil_of_length_eq_zero hxl
   refine ⟨_, _, hr, ⟨by simp, .inr ⟨w.heap.size, grownCap w k 0 e, _, ?_, hbase, heap_alloc_new _ _, ?_, grownCap_le_maxLen w k 0 e (by unfold maxLen; omega), ?_, ?_⟩⟩, ⟨rfl, rfl, rfl, by simp, fun j hj _ => heap_alloc_old _ _ hj⟩, .inr rfl⟩
   ·simp
   ·simpa using grownCap_ge w k 0 e
   ·have := grownCap_ge w k 0 e
    simp [size_zeroCells, Value.cells]
    omega
   ·rw [Array.toList_append]
    have e1 : (Builtin.zeroCells (Value.int .i64 0).cells k).toList = List.replicate k (Value.int .i64 0) := zeroCells_int k
    rw [e1, List.take_append_of_le_length (by simp), List.take_of_length_le (by simp)]
    simp
 ·have hcl : cur.size = cap := by simpa using hcs
  have htk : cur.toList.take n = xs := by simpa using htake
  by_cases hk : k = 0
  ·subst hk
   refine ⟨_, w, run_zeros_none w t tn ty e i kq kn ht htn hi _ n cap hnc, by simpa using hown, ⟨rfl, rfl, rfl, Nat.le_refl _, fun _ _ _ => rfl⟩, .inl rfl⟩
  by_cases hroom : n + k ≤ cap
  ·have hr := run_zeros_room (P := P) w t tn ty e i kq kn ht htn hi hz hs g n cap k cur hg (by omega) hroom (by omega) (by omega) (by rw [hb]; omega)
   refine ⟨_, _, hr, ⟨by simp [hxl], .inr ⟨g, cap, _, rfl, hbg, setRow_heap w g cur _ e _ hg, hroom, hcm, ?_, ?_⟩⟩, ⟨rfl, rfl, rfl, by simp, fun j _ hj => setRow_other w g j _ (fun e => hj (by simp [Value.ownBlock, e]))⟩, .inl rfl⟩
   ·simp
    omega
   ·rw [htk]
    show List.take ((n + k) * 1) (xs ++ List.replicate k (Value.int .i64 0) ++ _) = _
    rw [List.take_append_of_le_length (by simp [hxl]), List.take_of_length_le (by simp [hxl])]
  ·have hold : (Builtin.firstCells i.size n (.slice (some ⟨g, 0, none⟩) n cap)).run P w.drew = .ok xs.toArray w.drew := by
    refine run_firstCells_some (P := P) w.drew i.size n ⟨g, 0, none⟩ n cap xs (by rw [hs, hxl]; omega) fun j u hu => ?_
    exact hown.cells (g := g) rfl j u hu
   have hr := Lib.run_append_grow_zeros (P := P) w t tn ty e i (.int .i64 0) kq kn ht htn hi hz (some ⟨g, 0, none⟩) n cap xs hold k (by omega) (by omega) (by omega) (by omega) (by rw [hb]; omega) (growslice_fits (by omega) (by rw [hb]; omega))
   have hcg := grownCap_ge w (n + k) cap e
   refine ⟨_, _, hr, ⟨by simp [hxl], .inr ⟨w.heap.size, _, _, rfl, hbase, heap_alloc_new _ _, hcg, grownCap_le_maxLen w (n + k) cap e (by unfold maxLen; omega), ?_, ?_⟩⟩, ⟨rfl, rfl, rfl, by simp, fun j hj _ => heap_alloc_old _ _ hj⟩, .inr rfl⟩
   ·simp [size_zeroCells, Value.cells, hxl]
    omega
   ·rw [Array.toList_append, Array.toList_append]
    have e1 : (Builtin.zeroCells (Value.int .i64 0).cells k).toList = List.replicate k (Value.int .i64 0) := zeroCells_int k
    rw [e1]
    show List.take ((n + k) * 1) (xs ++ List.replicate k (Value.int .i64 0) ++ _) = _
    rw [List.take_append_of_le_length (by simp [hxl]), List.take_of_length_le (by simp [hxl])]
theorem run_none_own {P : Program} (w : World) (base : Nat) (t ty e : TypeId) (i : TypeInfo) (ht : P.underlying t = some (.slice e)) (hi : P.info? e = some i) (v : Value) (n c : Nat) (xs : List Value) (hown : w.ownsRow base e 1 v n xs) :
  (Builtin.append_ #[t, t] ty #[v, .slice none 0 c]).run P w = .ok v w := by
 rcases hown.2 with ⟨rfl, rfl⟩ | ⟨g, cap, cur, rfl, _, _, hnc, _⟩
 ·simp [Builtin.append_, run_underlying ht, Go.sizeOf, typeInfo, hi, Builtin.lenOf, Builtin.firstCells]
 ·simp [Builtin.append_, run_underlying ht, Go.sizeOf, typeInfo, hi, Builtin.lenOf, Builtin.firstCells, hnc, storeCells]
theorem run_ints_own {P : Program} (w : World) (base : Nat) (t ty e : TypeId) (i : TypeInfo) (ht : P.underlying t = some (.slice e)) (hi : P.info? e = some i) (hz : i.zero = some (.int .i64 0)) (hs : i.size = 1) (hb : i.bytes = 8)
  (v : Value) (n : Nat) (xs : List Value) (hown : w.ownsRow base e 1 v n xs) (q : Option Addr) (c : Nat) (ys : List Int) (hq : q = none → ys = []) (hy : ∀ j (h : j < ys.length), ∃ b o, q = some ⟨b, o, none⟩ ∧ w.cell? ⟨b, o + j, none⟩ = some (.int .i64 ys[j])) (h63 : n + ys.length ≤ 1000000) (hbase : base ≤ w.heap.size) :
  ∃ v' w', (Builtin.append_ #[t, t] ty #[v, .slice q ys.length c]).run P w = .ok v' w' ∧ w'.ownsRow base e 1 v' (n + ys.length) (xs ++ ys.map (.int .i64)) ∧ w.grownBy w' v.ownBlock := by
 cases q with
 | none =>
  obtain rfl := hq rfl
  exact ⟨v, w, run_none_own w base t ty e i ht hi v n c xs hown, by simpa using hown, ⟨rfl, rfl, rfl, Nat.le_refl _, fun _ _ _ => rfl⟩⟩
 | some ad =>
  obtain ⟨v', w', hr, h2, h3, _⟩ := run_append_own_at (P := P) w base t ty e i (.int .i64 0) 1 8 ht hi hz hs hb rfl (by omega) v n xs hown ad ys.length c (ys.map (.int .i64)) (by simp) (fun j u hu => by
   rw [List.getElem?_map, Option.map_eq_some_iff] at hu
   obtain ⟨x, hx, rfl⟩ := hu
   obtain ⟨hj, rfl⟩ := List.getElem?_eq_some_iff.1 hx
   obtain ⟨b, o, e, hc⟩ := hy j hj
   cases e
   have e : (⟨b, o, none⟩ : Addr).add j = ⟨b, o + j, none⟩ := by unfold Addr.add; split <;> simp_all
   rw [e]
   exact hc) (fun u hu => by obtain ⟨x, _, rfl⟩ := List.mem_map.1 hu; rfl) (by unfold maxLen; omega) (by omega) hbase
  exact ⟨v', w', hr, h2, h3⟩
theorem step_append_run {P : Program} {ops : Array Oper} {o : Oper} {a : Act} {w : World} {K : Act → World → Prop} {Q : Exit → Act → World → Prop} {E : Prop} (hgd : o.guard = none) (s x : Operand) (t tn : TypeId)
  (ho : o.op = .call { callee := .builtin .append, args := #[s, x], argTypes := #[t, tn] }) (vs vx : Value) (hs : a.eval s = vs) (hx : a.eval x = vx) (Post : Value → World → Prop)
  (hr : ∃ v' w', (Builtin.append_ #[t, tn] o.type #[vs, vx]).run P w = .ok v' w' ∧ Post v' w') (h : ∀ v' w', Post v' w' → K (a.put o.dst v') w') :
  if Region.wanted o (yielded ops a.tmps) = true then Oper.wp P o a w K Q else E := by
 have hw : Region.wanted o (yielded ops a.tmps) = true := by simp [Region.wanted, hgd]
 rw [if_pos hw]
 obtain ⟨v', w', hr, hp⟩ := hr
 exact Lib.wp_append_run w s x t tn ho vs vx hs hx v' w' hr (h v' w' hp)
end Go.Proofs.YtdjamkinijhjoaaDoor
namespace Go.Proofs.YtdjamkinijhjoaaDoor
open Go.RowKit

set_option maxHeartbeats 1000000 in
theorem isMain3_any (nm : ByteArray) (params regs : Int) (bp : Option Addr) (bl bc : Nat) (w : World) :
  Calls Tryd.prog 82 #[.agg #[.string nm, .int .i64 params, .int .i64 regs, .slice bp bl bc]] w fun e w' => e = .returned (.bool (nm.toList == [109, 97, 105, 110])) ∧ Below w.heap.size w w' := by
 go_enter Tryd.func82, Tryd.ntmps82
 go_wp2
 go_ret
 exact ⟨rfl, by repeat (first | (with_reducible first | exact bR _ _ | exact bH ‹_› | refine bD ?_ | refine bN ?_ _ | refine bS ?_ ?_ _ | refine bA ?_ ?_ _ | refine bT hb3 ?_ ?_ | refine bT hb5 ?_ ?_ | refine bT hb4 ?_ ?_) | omega | (simp; omega) | simp)⟩

set_option maxRecDepth 100000 in
set_option maxHeartbeats 1000000 in
theorem indexMain3_any (xs : List FunL) (fp : Option Addr) (fc : Nat) (w : World) (hl : xs.length ≤ 9223372036854775807) (hF : SliceAt w 4 (FunR w) fp xs) :
  Calls Tryd.prog 37 #[.slice fp xs.length fc, .func (.func 82) #[] #[]] w fun e w' => e = .returned (.int .i64 (optI (mainI xs))) ∧ Below w.heap.size w w' := by
 have HF := hidI hF
 clear hF
 go_enter Tryd.func37, Tryd.ntmps37
 go_wp2
 go_loopw [8] (fun i wr => ∃ k : Nat, k ≤ xs.length ∧ i = .int .i64 k ∧ (∀ j (h : j < xs.length), j < k → mainB xs[j] = false) ∧ Below w.heap.size w wr) (fun i _ => xs.length - (intOf i).toNat)
 case atStart => exact ⟨0, by omega, rfl, fun j _ h => by omega, Below.refl _ _⟩
 case round =>
  obtain ⟨k, hk, rfl, hV, hb⟩ := hrel
  have HV := hidI hV
  have HBw := hidI hb
  clear hV hb
  by_cases hlt : k < xs.length
  ·obtain ⟨b, o, q, c, hp, e0, e1, e2, e3, _⟩ := funGet HF.out HBw.out hlt
   subst hp
   go_wp2_with fail
   refine (isMain3_any _ _ _ _ _ _ _).mono ?_
   rintro e w3 ⟨rfl, hb3⟩
   have HB3 := hidI hb3
   have HE : Hid (mainB xs[k] = (xs[k].name.toList == [109, 97, 105, 110])) := rfl
   clear hb3
   cases hm : (xs[k].name.toList == [109, 97, 105, 110])
   ·have HM : Hid (mainB xs[k] = false) := HE.out.trans hm
    clear hm
    go_wp2_with fail
    refine ⟨⟨k + 1, by omega, by go_num, fun j hj hjk => ?_, HBw.out.trans (HB3.out.mono HBw.out.size)⟩, by simp [intOf]; omega⟩
    by_cases hj2 : j < k
    ·exact HV.out j hj hj2
    ·obtain rfl : j = k := by omega
     exact HM.out
   ·have HM : Hid (mainB xs[k] = true) := HE.out.trans hm
    clear hm
    go_wp2_with fail
    go_ret
    refine ⟨?_, HBw.out.trans (HB3.out.mono HBw.out.size)⟩
    rw [mainI_hit hlt HV.out HM.out]
    rfl
  ·go_wp2_with fail
   go_ret
   refine ⟨?_, HBw.out⟩
   rw [mainI_none (fun j hj => HV.out j hj (by omega))]
   rfl


def setC (u : UniL) (gp fp : Option Addr) (gc fc : Nat) (av mv iv cv : Value) : Array Value :=
 #[.slice gp u.globals.length gc, .slice fp u.funcs.length fc, av, mv, iv, .int .i64 0, .int .i64 0, .slice none 0 0, .int .i64 0, .slice none 0 0, cv]
def memTo (u : UniL) (k : Nat) : List Int := (u.globals.take k).flatMap memG
theorem memTo_succ {u : UniL} {k : Nat} (h : k < u.globals.length) : memTo u (k + 1) = memTo u k ++ (u.globals[k].init ++ List.replicate (u.globals[k].size.toNat - u.globals[k].init.length) 0) := by
 unfold memTo
 rw [List.take_succ_eq_append_getElem h, List.flatMap_append]
 simp [memG]

theorem memTo_le {u : UniL} (h : ChkOk u) : ∀ k, k ≤ u.globals.length → (memTo u k).length ≤ 200 := by
 intro k hk
 have h1 : ∀ k, k ≤ u.globals.length → ((memTo u k).length : Int) = wordsTo u k := by
  intro k
  induction k with
  | zero => intro _; simp [memTo, wordsTo]
  | succ k ih =>
   intro hk
   have h1 := gloE_zero ((gloI_eq (by omega)).symm.trans (h.glo k (by omega)))
   rw [wordsTo_succ (by omega), ← ih (by omega), memTo_succ (by omega)]
   simp
   omega
 have := (h.words k hk).2
 have := h1 k hk
 omega
theorem set3 {A : Nat} {u : UniL} {gp fp : Option Addr} {gc fc : Nat} {iv mv v' : Value} {n n' : Nat} {xs xs' : List Value} {wr W' w' : World}
  (hW : wr.heap[A]? = some (.cells (setC u gp fp gc fc (.slice none 0 0) mv iv (.slice none 0 0)) 148 (0, 0))) (hown : wr.ownsRow (A + 1) 3 1 mv n xs)
  (hb : Below wr.heap.size wr W') (hg : W'.grownBy w' mv.ownBlock) (hown' : w'.ownsRow (A + 1) 3 1 v' n' xs') :
  w'.heap[A]? = some (.cells (setC u gp fp gc fc (.slice none 0 0) mv iv (.slice none 0 0)) 148 (0, 0)) ∧
  (w'.setCell ⟨A, 3, none⟩ v').heap[A]? = some (.cells (setC u gp fp gc fc (.slice none 0 0) v' iv (.slice none 0 0)) 148 (0, 0)) ∧
  (w'.setCell ⟨A, 3, none⟩ v').ownsRow (A + 1) 3 1 v' n' xs' ∧ Below A wr (w'.setCell ⟨A, 3, none⟩ v') ∧ wr.heap.size ≤ (w'.setCell ⟨A, 3, none⟩ v').heap.size ∧ A < w'.heap.size := by
 have zA : A < wr.heap.size := (Array.getElem?_eq_some_iff.1 hW).1
 have hne : ∀ k, k < A + 1 → some k ≠ mv.ownBlock := fun k hk e => by have := (hown.lt _ e.symm).1; omega
 have h1 := (hg.block A (by have := hb.size; omega) (hne A (by omega))).trans ((hb.block A zA).trans hW)
 refine ⟨h1, ?_, keep_own hown' (grown_set _ _ _) fun g e => ?_, ⟨hg.os.trans hb.os, hg.tape.trans hb.tape, hg.output.trans hb.output, ?_, fun k hk => ?_⟩, ?_, (Array.getElem?_eq_some_iff.1 h1).1⟩
 ·simp only [World.setCell, Array.getElem?_modify, if_pos, h1]
  rfl
 ·have := (hown'.lt _ e).1
  intro e2
  have e3 : g = A := Option.some.inj e2
  omega
 ·rw [Go.Deep.nblk_setCell]; exact Nat.le_trans hb.size hg.size
 ·rw [Go.Deep.blk_setCell_other w' ⟨A, 3, none⟩ v' k (Nat.ne_of_lt hk)]
  exact (hg.block k (by have := hb.size; omega) (hne k (by omega))).trans (hb.block k (by omega))
 ·rw [Go.Deep.nblk_setCell]; exact Nat.le_trans hb.size hg.size
theorem zerosStep {A n k : Nat} {p : Option Addr} {c : Nat} {xs : List Value} {W W' : World} (hown : W.ownsRow (A + 1) 3 1 (.slice p n c) n xs) (hb : Below W.heap.size W W') (hs : A < W.heap.size) (hl : n + k ≤ 1000000) :
  ∃ v' w', (Builtin.append_ #[46, 3] 46 #[.slice p n c, .int .i64 k]).run Tryd.prog W' = .ok v' w' ∧ ∃ p' c', v' = .slice p' (n + k) c' ∧ w'.ownsRow (A + 1) 3 1 (.slice p' (n + k) c') (n + k) (xs ++ List.replicate k (.int .i64 0)) ∧ W'.grownBy w' (Value.slice p n c).ownBlock := by
 obtain ⟨i1, k1, k2, k3, k4⟩ := info_parts infoInt9
 obtain ⟨v', w', hr, h1, h2, _⟩ := run_zeros_own (P := Tryd.prog) W' (A + 1) 46 3 46 3 i1 .i64 .i64 underInts9 (by kernel_rfl) k1 k2 k3 k4 _ n k _ (ownsRow_below' hown hb) hl (by have := hb.size; omega)
 obtain ⟨p', c', rfl⟩ := own_slice h1
 exact ⟨_, w', hr, p', c', rfl, h1, h2⟩
end Go.Proofs.YtdjamkinijhjoaaDoor
