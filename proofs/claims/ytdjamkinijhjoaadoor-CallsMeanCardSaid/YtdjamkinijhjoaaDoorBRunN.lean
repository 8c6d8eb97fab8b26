/-
  Of no program: zeros appended to a row of the call's own; an append in a region that draws its order, by what its run comes to.
What run.Counts sets up: which function is main; the memory out of the globals.
How run.Counts lays a run in memory, function by function.
-/
import Derived.Lib.AppendZerosOnto
import Derived.Deep.AppendLies
import Derived.Test.YtdjamkinijhjoaaDoorWrd
import Derived.Test.YtdjamkinijhjoaaDoorBCalM
import Derived.Deep.RegionLaw
import Derived.BigQuiet
import Derived.Deep.QuietTactic
import Derived.WalkKit
import Derived.WalkSpells
import Derived.WalkLawsBesides
import Derived.Test.YtdjamkinijhjoaaDoorRunB
namespace Go.Proofs.YtdjamkinijhjoaaDoor
open Go.RowKit

theorem zeroCells_int (k : Nat) : (Builtin.zeroCells #[Value.int .i64 0] k).toList = List.replicate k (Value.int .i64 0) := by
  apply List.ext_getElem
  · simp [Builtin.zeroCells]
  · intro i h1 h2
    simp [Builtin.zeroCells, Nat.mod_one]
theorem run_zeros_room {P : Program} (w : World) (t tn ty e : TypeId) (i : TypeInfo) (kq kn : IntKind) (ht : P.underlying t = some (.slice e)) (htn : P.underlying tn = some (.int kn)) (hi : P.info? e = some i) (hz : i.zero = some (.int .i64 0)) (hs : i.size = 1)
    (g n cap k : Nat) (cur : Array Value) (hg : w.heap[g]? = some (.cells cur e (0, 0))) (hk : 0 < k) (hroom : n + k ≤ cap) (hfit : n + k ≤ cur.size) (h63 : (k : Int) ≤ 9223372036854775807) (h48 : k * i.bytes ≤ 281474976710656) :
    (Builtin.append_ #[t, tn] ty #[.slice (some ⟨g, 0, none⟩) n cap, .int kq k]).run P w =
      .ok (.slice (some ⟨g, 0, none⟩) (n + k) cap) (w.setRow g (cur.toList.take n ++ List.replicate k (Value.int .i64 0) ++ cur.toList.drop (n + k)).toArray) := by
  have hw : IntKind.i64.wrap (k : Int) = k := by rw [IntKind.wrap_i64]; omega
  have h48i : ¬ (281474976710656 < (k : Int) * (i.bytes : Int)) := by
    rw [← Int.natCast_mul]
    omega
  have hneg : ¬ ((k : Int) < 0) := by omega
  have hst := run_storeCells_at P g n e (List.replicate k (Value.int .i64 0)) 0 cur w hg (by simpa using hfit) (fun v hv => by rw [(List.mem_replicate.1 hv).2]; rfl)
  simp only [Nat.add_zero, List.length_replicate] at hst
  have hk : k ≠ 0 := by omega
  have hzc : (Builtin.zeroCells (Value.int .i64 0).cells k).toList = List.replicate k (Value.int .i64 0) := zeroCells_int k
  simp [Builtin.append_, run_underlying ht, run_underlying htn, Go.sizeOf, typeInfo, zeroValue, hi, hz, hs, asInt, asIntOf, hw, hneg, h48i, hk, hroom, Addr.add_lit, hzc, hst]
theorem run_zeros_none {P : Program} (w : World) (t tn ty e : TypeId) (i : TypeInfo) (kq kn : IntKind) (ht : P.underlying t = some (.slice e)) (htn : P.underlying tn = some (.int kn)) (hi : P.info? e = some i)
    (p : Option Addr) (n cap : Nat) (hn : n ≤ cap) :
    (Builtin.append_ #[t, tn] ty #[.slice p n cap, .int kq 0]).run P w = .ok (.slice p n cap) w := by
  have hw : IntKind.i64.wrap 0 = 0 := by decide
  cases p <;> simp [Builtin.append_, run_underlying ht, run_underlying htn, Go.sizeOf, typeInfo, hi, asInt, asIntOf, storeCells, hn, hw]
/-- zeros appended to a row of the call's own -/
theorem run_zeros_own {P : Program} (w : World) (base : Nat) (t tn ty e : TypeId) (i : TypeInfo) (kq kn : IntKind) (ht : P.underlying t = some (.slice e)) (htn : P.underlying tn = some (.int kn)) (hi : P.info? e = some i) (hz : i.zero = some (.int .i64 0)) (hs : i.size = 1) (hb : i.bytes = 8)
    (v : Value) (n k : Nat) (xs : List Value) (hown : w.ownsRow base e 1 v n xs) (h63 : n + k ≤ 1000000) (hbase : base ≤ w.heap.size) :
    ∃ v' w', (Builtin.append_ #[t, tn] ty #[v, .int kq k]).run P w = .ok v' w' ∧ w'.ownsRow base e 1 v' (n + k) (xs ++ List.replicate k (.int .i64 0)) ∧ w.grownBy w' v.ownBlock ∧ (v'.ownBlock = v.ownBlock ∨ v'.ownBlock = some w.heap.size) := by
  have hxl : xs.length = n := by simpa using hown.1
  rcases hown.2 with ⟨rfl, rfl⟩ | ⟨g, cap, cur, rfl, hbg, hg, hnc, hcm, hcs, htake⟩
  · by_cases hk : k = 0
    · subst hk
      refine ⟨_, w, run_zeros_none w t tn ty e i kq kn ht htn hi none 0 0 (Nat.le_refl _), by simpa using hown, ⟨rfl, rfl, rfl, Nat.le_refl _, fun _ _ _ => rfl⟩, .inl rfl⟩
    · have hr := Lib.run_append_nil_zeros (P := P) w t tn ty e i (.int .i64 0) kq kn ht htn hi hz k (by omega) (by omega) (by omega) (by rw [hb]; omega)
      obtain rfl : xs = [] := List.eq_nil_of_length_eq_zero hxl
      refine ⟨_, _, hr, ⟨by simp, .inr ⟨w.heap.size, grownCap w k 0 e, _, ?_, hbase, heap_alloc_new _ _, ?_, grownCap_le_maxLen w k 0 e (by unfold maxLen; omega), ?_, ?_⟩⟩, ⟨rfl, rfl, rfl, by simp, fun j hj _ => heap_alloc_old _ _ hj⟩, .inr rfl⟩
      · simp
      · simpa using grownCap_ge w k 0 e
      · have := grownCap_ge w k 0 e
        simp [size_zeroCells, Value.cells]
        omega
      · rw [Array.toList_append]
        have e1 : (Builtin.zeroCells (Value.int .i64 0).cells k).toList = List.replicate k (Value.int .i64 0) := zeroCells_int k
        rw [e1, List.take_append_of_le_length (by simp), List.take_of_length_le (by simp)]
        simp
  · have hcl : cur.size = cap := by simpa using hcs
    have htk : cur.toList.take n = xs := by simpa using htake
    by_cases hk : k = 0
    · subst hk
      refine ⟨_, w, run_zeros_none w t tn ty e i kq kn ht htn hi _ n cap hnc, by simpa using hown, ⟨rfl, rfl, rfl, Nat.le_refl _, fun _ _ _ => rfl⟩, .inl rfl⟩
    by_cases hroom : n + k ≤ cap
    · have hr := run_zeros_room (P := P) w t tn ty e i kq kn ht htn hi hz hs g n cap k cur hg (by omega) hroom (by omega) (by omega) (by rw [hb]; omega)
      refine ⟨_, _, hr, ⟨by simp [hxl], .inr ⟨g, cap, _, rfl, hbg, setRow_heap w g cur _ e _ hg, hroom, hcm, ?_, ?_⟩⟩, ⟨rfl, rfl, rfl, by simp, fun j _ hj => setRow_other w g j _ (fun e => hj (by simp [Value.ownBlock, e]))⟩, .inl rfl⟩
      · simp
        omega
      · rw [htk]
        show List.take ((n + k) * 1) (xs ++ List.replicate k (Value.int .i64 0) ++ _) = _
        rw [List.take_append_of_le_length (by simp [hxl]), List.take_of_length_le (by simp [hxl])]
    · have hold : (Builtin.firstCells i.size n (.slice (some ⟨g, 0, none⟩) n cap)).run P w.drew = .ok xs.toArray w.drew := by
        refine run_firstCells_some (P := P) w.drew i.size n ⟨g, 0, none⟩ n cap xs (by rw [hs, hxl]; omega) fun j u hu => ?_
        exact hown.cells (g := g) rfl j u hu
      have hr := Lib.run_append_grow_zeros (P := P) w t tn ty e i (.int .i64 0) kq kn ht htn hi hz (some ⟨g, 0, none⟩) n cap xs hold k (by omega) (by omega) (by omega) (by omega) (by rw [hb]; omega) (growslice_fits (by omega) (by rw [hb]; omega))
      have hcg := grownCap_ge w (n + k) cap e
      refine ⟨_, _, hr, ⟨by simp [hxl], .inr ⟨w.heap.size, _, _, rfl, hbase, heap_alloc_new _ _, hcg, grownCap_le_maxLen w (n + k) cap e (by unfold maxLen; omega), ?_, ?_⟩⟩, ⟨rfl, rfl, rfl, by simp, fun j hj _ => heap_alloc_old _ _ hj⟩, .inr rfl⟩
      · simp [size_zeroCells, Value.cells, hxl]
        omega
      · rw [Array.toList_append, Array.toList_append]
        have e1 : (Builtin.zeroCells (Value.int .i64 0).cells k).toList = List.replicate k (Value.int .i64 0) := zeroCells_int k
        rw [e1]
        show List.take ((n + k) * 1) (xs ++ List.replicate k (Value.int .i64 0) ++ _) = _
        rw [List.take_append_of_le_length (by simp [hxl]), List.take_of_length_le (by simp [hxl])]
theorem run_none_own {P : Program} (w : World) (base : Nat) (t ty e : TypeId) (i : TypeInfo) (ht : P.underlying t = some (.slice e)) (hi : P.info? e = some i) (v : Value) (n c : Nat) (xs : List Value) (hown : w.ownsRow base e 1 v n xs) :
    (Builtin.append_ #[t, t] ty #[v, .slice none 0 c]).run P w = .ok v w := by
  rcases hown.2 with ⟨rfl, rfl⟩ | ⟨g, cap, cur, rfl, _, _, hnc, _⟩
  · simp [Builtin.append_, run_underlying ht, Go.sizeOf, typeInfo, hi, Builtin.lenOf, Builtin.firstCells]
  · simp [Builtin.append_, run_underlying ht, Go.sizeOf, typeInfo, hi, Builtin.lenOf, Builtin.firstCells, hnc, storeCells]
/-- numbers that came in, appended to a row of the call's own -/
theorem run_ints_own {P : Program} (w : World) (base : Nat) (t ty e : TypeId) (i : TypeInfo) (ht : P.underlying t = some (.slice e)) (hi : P.info? e = some i) (hz : i.zero = some (.int .i64 0)) (hs : i.size = 1) (hb : i.bytes = 8)
    (v : Value) (n : Nat) (xs : List Value) (hown : w.ownsRow base e 1 v n xs) (q : Option Addr) (c : Nat) (ys : List Int) (hq : q = none → ys = []) (hy : ∀ j (h : j < ys.length), ∃ b o, q = some ⟨b, o, none⟩ ∧ w.cell? ⟨b, o + j, none⟩ = some (.int .i64 ys[j])) (h63 : n + ys.length ≤ 1000000) (hbase : base ≤ w.heap.size) :
    ∃ v' w', (Builtin.append_ #[t, t] ty #[v, .slice q ys.length c]).run P w = .ok v' w' ∧ w'.ownsRow base e 1 v' (n + ys.length) (xs ++ ys.map (.int .i64)) ∧ w.grownBy w' v.ownBlock := by
  cases q with
  | none =>
    obtain rfl := hq rfl
    exact ⟨v, w, run_none_own w base t ty e i ht hi v n c xs hown, by simpa using hown, ⟨rfl, rfl, rfl, Nat.le_refl _, fun _ _ _ => rfl⟩⟩
  | some ad =>
    obtain ⟨v', w', hr, h2, h3, _⟩ := run_append_own_at (P := P) w base t ty e i (.int .i64 0) 1 8 ht hi hz hs hb rfl (by omega) v n xs hown ad ys.length c (ys.map (.int .i64)) (by simp) (fun j u hu => by
      rw [List.getElem?_map, Option.map_eq_some_iff] at hu
      obtain ⟨x, hx, rfl⟩ := hu
      obtain ⟨hj, rfl⟩ := List.getElem?_eq_some_iff.1 hx
      obtain ⟨b, o, e, hc⟩ := hy j hj
      cases e
      have e : (⟨b, o, none⟩ : Addr).add j = ⟨b, o + j, none⟩ := by unfold Addr.add; split <;> simp_all
      rw [e]
      exact hc) (fun u hu => by obtain ⟨x, _, rfl⟩ := List.mem_map.1 hu; rfl) (by unfold maxLen; omega) (by omega) hbase
    exact ⟨v', w', hr, h2, h3⟩
/-- a step of a region that draws its order: an append, by what its run comes to -/
theorem step_append_run {P : Program} {ops : Array Oper} {o : Oper} {a : Act} {w : World} {K : Act → World → Prop} {Q : Exit → Act → World → Prop} {E : Prop} (hgd : o.guard = none) (s x : Operand) (t tn : TypeId)
    (ho : o.op = .call { callee := .builtin .append, args := #[s, x], argTypes := #[t, tn] }) (vs vx : Value) (hs : a.eval s = vs) (hx : a.eval x = vx) (Post : Value → World → Prop)
    (hr : ∃ v' w', (Builtin.append_ #[t, tn] o.type #[vs, vx]).run P w = .ok v' w' ∧ Post v' w') (h : ∀ v' w', Post v' w' → K (a.put o.dst v') w') :
    if Region.wanted o (yielded ops a.tmps) = true then Oper.wp P o a w K Q else E := by
  have hw : Region.wanted o (yielded ops a.tmps) = true := by simp [Region.wanted, hgd]
  rw [if_pos hw]
  obtain ⟨v', w', hr, hp⟩ := hr
  exact Lib.wp_append_run w s x t tn ho vs vx hs hx v' w' hr (h v' w' hp)
end Go.Proofs.YtdjamkinijhjoaaDoor
namespace Go.Proofs.YtdjamkinijhjoaaDoor
open Go.RowKit

set_option maxHeartbeats 1000000 in
theorem isMain3_any (nm : ByteArray) (params regs : Int) (bp : Option Addr) (bl bc : Nat) (w : World) :
    Calls Tryd.prog 82 #[.agg #[.string nm, .int .i64 params, .int .i64 regs, .slice bp bl bc]] w fun e w' => e = .returned (.bool (nm.toList == [109, 97, 105, 110])) ∧ Below w.heap.size w w' := by
  go_enter Tryd.func82, Tryd.ntmps82
  go_wp2
  go_ret
  exact ⟨rfl, by repeat (first | with_reducible exact Below.refl _ _ | with_reducible exact HB3.out | with_reducible refine Below.drew ?_ | with_reducible refine below_drewN ?_ _ | with_reducible refine Below.setCell ?_ ?_ _ | with_reducible refine Below.alloc ?_ ?_ _ | with_reducible exact HB2.out | with_reducible exact HB1.out | with_reducible refine Below.trans ?_ (Below.mono hb3 ?_) | with_reducible refine Below.trans ?_ (Below.mono hb5 ?_) | with_reducible refine Below.trans ?_ (Below.mono hb4 ?_) | omega | (simp; omega) | simp)⟩

set_option maxRecDepth 100000 in
set_option maxHeartbeats 1000000 in
theorem indexMain3_any (xs : List FunL) (fp : Option Addr) (fc : Nat) (w : World) (hl : xs.length ≤ 9223372036854775807) (hF : SliceAt w 4 (FunR w) fp xs) :
    Calls Tryd.prog 37 #[.slice fp xs.length fc, .func (.func 82) #[] #[]] w fun e w' => e = .returned (.int .i64 (optI (mainI xs))) ∧ Below w.heap.size w w' := by
  have HF := hidI hF
  clear hF
  go_enter Tryd.func37, Tryd.ntmps37
  go_wp2
  go_loopw [8] (fun i wr => ∃ k : Nat, k ≤ xs.length ∧ i = .int .i64 k ∧ (∀ j (h : j < xs.length), j < k → mainB xs[j] = false) ∧ Below w.heap.size w wr) (fun i _ => xs.length - (intOf i).toNat)
  case atStart => exact ⟨0, by omega, rfl, fun j _ h => by omega, Below.refl _ _⟩
  case round =>
    obtain ⟨k, hk, rfl, hV, hb⟩ := hrel
    have HV := hidI hV
    have HBw := hidI hb
    clear hV hb
    by_cases hlt : k < xs.length
    · obtain ⟨b, o, q, c, hp, e0, e1, e2, e3, _⟩ := funGet HF.out HBw.out hlt
      subst hp
      go_wp2_with fail
      refine (isMain3_any _ _ _ _ _ _ _).mono ?_
      rintro e w3 ⟨rfl, hb3⟩
      have HB3 := hidI hb3
      have HE : Hid (mainB xs[k] = (xs[k].name.toList == [109, 97, 105, 110])) := rfl
      clear hb3
      cases hm : (xs[k].name.toList == [109, 97, 105, 110])
      · have HM : Hid (mainB xs[k] = false) := HE.out.trans hm
        clear hm
        go_wp2_with fail
        refine ⟨⟨k + 1, by omega, by go_num, fun j hj hjk => ?_, HBw.out.trans (HB3.out.mono HBw.out.size)⟩, by simp [intOf]; omega⟩
        by_cases hj2 : j < k
        · exact HV.out j hj hj2
        · obtain rfl : j = k := by omega
          exact HM.out
      · have HM : Hid (mainB xs[k] = true) := HE.out.trans hm
        clear hm
        go_wp2_with fail
        go_ret
        refine ⟨?_, HBw.out.trans (HB3.out.mono HBw.out.size)⟩
        rw [mainI_hit hlt HV.out HM.out]
        rfl
    · go_wp2_with fail
      go_ret
      refine ⟨?_, HBw.out⟩
      rw [mainI_none (fun j hj => HV.out j hj (by omega))]
      rfl


/-- the walker's block while it is set up -/
def setC (u : UniL) (gp fp : Option Addr) (gc fc : Nat) (av mv iv cv : Value) : Array Value :=
  #[.slice gp u.globals.length gc, .slice fp u.funcs.length fc, av, mv, iv, .int .i64 0, .int .i64 0, .slice none 0 0, .int .i64 0, .slice none 0 0, cv]
def memTo (u : UniL) (k : Nat) : List Int := (u.globals.take k).flatMap memG
theorem memTo_succ {u : UniL} {k : Nat} (h : k < u.globals.length) : memTo u (k + 1) = memTo u k ++ (u.globals[k].init ++ List.replicate (u.globals[k].size.toNat - u.globals[k].init.length) 0) := by
  unfold memTo
  rw [List.take_succ_eq_append_getElem h, List.flatMap_append]
  simp [memG]

theorem memTo_le {u : UniL} (h : ChkOk u) : ∀ k, k ≤ u.globals.length → (memTo u k).length ≤ 200 := by
  intro k hk
  have h1 : ∀ k, k ≤ u.globals.length → ((memTo u k).length : Int) = wordsTo u k := by
    intro k
    induction k with
    | zero => intro _; simp [memTo, wordsTo]
    | succ k ih =>
      intro hk
      have h1 := gloE_zero ((gloI_eq (by omega)).symm.trans (h.glo k (by omega)))
      rw [wordsTo_succ (by omega), ← ih (by omega), memTo_succ (by omega)]
      simp
      omega
  have := (h.words k hk).2
  have := h1 k hk
  omega
/-- a step of the set-up: the memory grew and is written back -/
theorem set3 {A : Nat} {u : UniL} {gp fp : Option Addr} {gc fc : Nat} {iv mv v' : Value} {n n' : Nat} {xs xs' : List Value} {wr W' w' : World}
    (hW : wr.heap[A]? = some (.cells (setC u gp fp gc fc (.slice none 0 0) mv iv (.slice none 0 0)) 148 (0, 0))) (hown : wr.ownsRow (A + 1) 3 1 mv n xs)
    (hb : Below wr.heap.size wr W') (hg : W'.grownBy w' mv.ownBlock) (hown' : w'.ownsRow (A + 1) 3 1 v' n' xs') :
    w'.heap[A]? = some (.cells (setC u gp fp gc fc (.slice none 0 0) mv iv (.slice none 0 0)) 148 (0, 0)) ∧
    (w'.setCell ⟨A, 3, none⟩ v').heap[A]? = some (.cells (setC u gp fp gc fc (.slice none 0 0) v' iv (.slice none 0 0)) 148 (0, 0)) ∧
    (w'.setCell ⟨A, 3, none⟩ v').ownsRow (A + 1) 3 1 v' n' xs' ∧ Below A wr (w'.setCell ⟨A, 3, none⟩ v') ∧ wr.heap.size ≤ (w'.setCell ⟨A, 3, none⟩ v').heap.size ∧ A < w'.heap.size := by
  have zA : A < wr.heap.size := (Array.getElem?_eq_some_iff.1 hW).1
  have hne : ∀ k, k < A + 1 → some k ≠ mv.ownBlock := fun k hk e => by have := (hown.lt _ e.symm).1; omega
  have h1 := (hg.block A (by have := hb.size; omega) (hne A (by omega))).trans ((hb.block A zA).trans hW)
  refine ⟨h1, ?_, keep_own hown' (grown_set _ _ _) fun g e => ?_, ⟨hg.os.trans hb.os, hg.tape.trans hb.tape, hg.output.trans hb.output, ?_, fun k hk => ?_⟩, ?_, (Array.getElem?_eq_some_iff.1 h1).1⟩
  · simp only [World.setCell, Array.getElem?_modify, if_pos, h1]
    rfl
  · have := (hown'.lt _ e).1
    intro e2
    have e3 : g = A := Option.some.inj e2
    omega
  · rw [Go.Deep.nblk_setCell]; exact Nat.le_trans hb.size hg.size
  · rw [Go.Deep.blk_setCell_other w' ⟨A, 3, none⟩ v' k (Nat.ne_of_lt hk)]
    exact (hg.block k (by have := hb.size; omega) (hne k (by omega))).trans (hb.block k (by omega))
  · rw [Go.Deep.nblk_setCell]; exact Nat.le_trans hb.size hg.size
/-- a step of the set-up: zeros appended to the memory -/
theorem zerosStep {A n k : Nat} {p : Option Addr} {c : Nat} {xs : List Value} {W W' : World} (hown : W.ownsRow (A + 1) 3 1 (.slice p n c) n xs) (hb : Below W.heap.size W W') (hs : A < W.heap.size) (hl : n + k ≤ 1000000) :
    ∃ v' w', (Builtin.append_ #[46, 3] 46 #[.slice p n c, .int .i64 k]).run Tryd.prog W' = .ok v' w' ∧ ∃ p' c', v' = .slice p' (n + k) c' ∧ w'.ownsRow (A + 1) 3 1 (.slice p' (n + k) c') (n + k) (xs ++ List.replicate k (.int .i64 0)) ∧ W'.grownBy w' (Value.slice p n c).ownBlock := by
  obtain ⟨i1, k1, k2, k3, k4⟩ := info_parts infoInt9
  obtain ⟨v', w', hr, h1, h2, _⟩ := run_zeros_own (P := Tryd.prog) W' (A + 1) 46 3 46 3 i1 .i64 .i64 underInts9 (by kernel_rfl) k1 k2 k3 k4 _ n k _ (ownsRow_below' hown hb) hl (by have := hb.size; omega)
  obtain ⟨p', c', rfl⟩ := own_slice h1
  exact ⟨_, w', hr, p', c', rfl, h1, h2⟩
end Go.Proofs.YtdjamkinijhjoaaDoor
namespace Go.Proofs.YtdjamkinijhjoaaDoor
open Go.RowKit

theorem own_block {w w' : World} {B : Nat} {e : TypeId} {z : Nat} {v : Value} {n : Nat} {xs : List Value} (h : w.ownsRow B e z v n xs) (hg : ∀ g, v.ownBlock = some g → w'.heap[g]? = w.heap[g]?) : w'.ownsRow B e z v n xs := by
  refine ⟨h.1, ?_⟩
  rcases h.2 with h0 | ⟨g, cap, cur, hv, h1, h2, h3⟩
  · exact .inl h0
  · exact .inr ⟨g, cap, cur, hv, h1, (hg g (by rw [hv]; rfl)).trans h2, h3⟩
theorem own_low {w : World} {B B' : Nat} {e : TypeId} {z : Nat} {v : Value} {n : Nat} {xs : List Value} (h : w.ownsRow B e z v n xs) (hb : B' ≤ B) : w.ownsRow B' e z v n xs := by
  refine ⟨h.1, ?_⟩
  rcases h.2 with h0 | ⟨g, cap, cur, hv, h1, h2, h3⟩
  · exact .inl h0
  · exact .inr ⟨g, cap, cur, hv, Nat.le_trans hb h1, h2, h3⟩
theorem cell_block {w w' : World} {b o : Nat} (h : w'.heap[b]? = w.heap[b]?) : w'.cell? ⟨b, o, none⟩ = w.cell? ⟨b, o, none⟩ := World.cell?_of_block (w := w) h

def upd {α : Type} (f : Nat → α) (k : Nat) (x : α) : Nat → α := fun j => if j = k then x else f j
theorem upd_at {α : Type} (f : Nat → α) (k : Nat) (x : α) : upd f k x k = x := by simp [upd]
theorem upd_ne {α : Type} (f : Nat → α) {k j : Nat} (x : α) (h : j ≠ k) : upd f k x j = f j := by simp [upd, h]
def rowsV (u : UniL) (A : Nat → Nat) (k : Nat) : List Value := (List.range k).map fun j => .slice (some ⟨A j, 0, none⟩) (fnU u j).blocks.length (fnU u j).blocks.length
theorem rowsV_succ (u : UniL) (A : Nat → Nat) (k x : Nat) : rowsV u (upd A k x) (k + 1) = rowsV u A k ++ [.slice (some ⟨x, 0, none⟩) (fnU u k).blocks.length (fnU u k).blocks.length] := by
  unfold rowsV
  rw [List.range_succ, List.map_append]
  congr 1
  · refine List.map_congr_left fun j hj => ?_
    rw [upd_ne _ _ (by have := List.mem_range.1 hj; omega)]
  · simp [upd_at]

theorem infoRows9 : (Tryd.prog.info? 94).map (fun i => (i.zero, i.size, i.bytes)) = some (some (.slice none 0 0), 1, 24) := by kernel_rfl
theorem infoInts8 : (Tryd.prog.info? 46).map (fun i => (i.zero, i.size, i.bytes)) = some (some (.slice none 0 0), 1, 24) := by kernel_rfl
theorem underRows9 : Tryd.prog.underlying 94 = some (.slice 46) := by kernel_rfl
theorem underRowss9 : Tryd.prog.underlying 145 = some (.slice 94) := by kernel_rfl
/-- a run that is laid: k functions have those ahead, n have their counts; ro: whose a block is -/
structure SetR (w0 : World) (W : Nat) (u : UniL) (gp fp : Option Addr) (gc fc : Nat) (mv iv : Value) (w : World) (ro : Nat → Nat) (k n : Nat) (av cv : Value) (A : Nat → Nat) (v : Nat → Nat → Value) (C : Nat → Nat) : Prop where
  below : Below w0.heap.size w0 w
  head : w.heap[W]? = some (.cells (setC u gp fp gc fc av mv iv cv) 148 (0, 0))
  roW : ro W = 1
  lowW : w0.heap.size ≤ W
  memO : w.ownsRow w0.heap.size 3 1 mv (memU u).length ((memU u).map (.int .i64))
  roM : ∀ g, mv.ownBlock = some g → ro g = 2
  ahdO : w.ownsRow w0.heap.size 94 1 av k (rowsV u A k)
  roA : ∀ g, av.ownBlock = some g → ro g = 100
  cntO : w.ownsRow w0.heap.size 46 1 cv n (rowsV u C n)
  roD : ∀ g, cv.ownBlock = some g → ro g = 102
  ra : ∀ j, j < k → A j < w.heap.size ∧ ro (A j) = 0
  row : ∀ j b, j < k → b < (fnU u j).blocks.length → w.cell? ⟨A j, b, none⟩ = some (v j b)
  own : ∀ j b, j < k → b < (fnU u j).blocks.length → w.ownsRow w0.heap.size 3 1 (v j b) (rowOf (waysL (fnU u j)) b).length ((rowOf (waysL (fnU u j)) b).map fun i : Nat => .int .i64 (i : Int))
  rv : ∀ j b, j < k → b < (fnU u j).blocks.length → ∀ g, (v j b).ownBlock = some g → ro g = 0
  cntR : ∀ j, j < n → w.rowIs (C j) 3 (fnU u j).blocks.length (fun _ => .int .i64 0)
  roC : ∀ j, j < n → ro (C j) = 6 + 2 * j
  lowC : ∀ j, j < n → w0.heap.size ≤ C j

theorem SetR.old {w0 : World} {W : Nat} {u : UniL} {gp fp : Option Addr} {gc fc : Nat} {mv iv : Value} {w : World} {ro : Nat → Nat} {k n : Nat} {av cv : Value} {A : Nat → Nat} {v : Nat → Nat → Value} {C : Nat → Nat} (h : SetR w0 W u gp fp gc fc mv iv w ro k n av cv A v C)
    {w1 w2 : World} {row : Option Nat} {r : Nat} (hb : Below w.heap.size w w1) (hg : w1.grownBy w2 row) (hr : ∀ b, row = some b → ro b = r) (c : Nat) (x : Value) :
    (∀ g, g < w.heap.size → ro g ≠ r → ro g ≠ 1 → (w2.setCell ⟨W, c, none⟩ x).heap[g]? = w.heap[g]?) ∧ w.heap.size ≤ (w2.setCell ⟨W, c, none⟩ x).heap.size := by
  refine ⟨fun g hl h1 h2 => ?_, ?_⟩
  · rw [Go.Deep.blk_setCell_other w2 ⟨W, c, none⟩ x g (fun e => h2 (by have e2 : g = W := e; rw [e2]; exact h.roW))]
    exact (hg.block g (by have := hb.size; omega) (fun e => h1 (hr g e.symm))).trans (hb.block g hl)
  · rw [Go.Deep.nblk_setCell]; exact Nat.le_trans hb.size hg.size
theorem SetR.keepB {w0 : World} {W : Nat} {u : UniL} {gp fp : Option Addr} {gc fc : Nat} {mv iv : Value} {w : World} {ro : Nat → Nat} {k n : Nat} {av cv : Value} {A : Nat → Nat} {v : Nat → Nat → Value} {C : Nat → Nat} (h : SetR w0 W u gp fp gc fc mv iv w ro k n av cv A v C)
    {w1 w2 : World} {row : Option Nat} (hb : Below w.heap.size w w1) (hg : w1.grownBy w2 row) (hr : ∀ b, row = some b → w0.heap.size ≤ b) (c : Nat) (x : Value) :
    Below w0.heap.size w0 (w2.setCell ⟨W, c, none⟩ x) := by
  have h1 : Below w0.heap.size w0 w1 := h.below.trans (hb.mono h.below.size)
  exact (h1.grown hg h1.size hr).setCell h.lowW x
theorem SetR.headAt {w0 : World} {W : Nat} {u : UniL} {gp fp : Option Addr} {gc fc : Nat} {mv iv : Value} {w : World} {ro : Nat → Nat} {k n : Nat} {av cv : Value} {A : Nat → Nat} {v : Nat → Nat → Value} {C : Nat → Nat} (h : SetR w0 W u gp fp gc fc mv iv w ro k n av cv A v C)
    {w1 w2 : World} {row : Option Nat} {r : Nat} (hb : Below w.heap.size w w1) (hg : w1.grownBy w2 row) (hr : ∀ b, row = some b → ro b = r) (hr1 : r ≠ 1) :
    w2.heap[W]? = some (.cells (setC u gp fp gc fc av mv iv cv) 148 (0, 0)) := by
  have zW : W < w.heap.size := (Array.getElem?_eq_some_iff.1 h.head).1
  exact (hg.block W (by have := hb.size; omega) (fun e => hr1 ((hr W e.symm).symm.trans h.roW))).trans ((hb.block W zW).trans h.head)

/-- memory is made, and nothing else -/
theorem SetR.mono {w0 : World} {W : Nat} {u : UniL} {gp fp : Option Addr} {gc fc : Nat} {mv iv : Value} {w w' : World} {ro : Nat → Nat} {k n : Nat} {av cv : Value} {A : Nat → Nat} {v : Nat → Nat → Value} {C : Nat → Nat} (h : SetR w0 W u gp fp gc fc mv iv w ro k n av cv A v C) (hb : Below w.heap.size w w') : SetR w0 W u gp fp gc fc mv iv w' ro k n av cv A v C :=
  ⟨h.below.trans (hb.mono h.below.size), heap_below hb (Array.getElem?_eq_some_iff.1 h.head).1 h.head, h.roW, h.lowW, ownsRow_below' h.memO hb, h.roM, ownsRow_below' h.ahdO hb, h.roA, ownsRow_below' h.cntO hb, h.roD, fun j hj => ⟨Nat.lt_of_lt_of_le (h.ra j hj).1 hb.size, (h.ra j hj).2⟩,
    fun j b hj hk => (cell_block (hb.block _ (h.ra j hj).1)).trans (h.row j b hj hk), fun j b hj hk => ownsRow_below' (h.own j b hj hk) hb, h.rv, fun j hj => (h.cntR j hj).of_block (hb.block _ (h.cntR j hj).lt), h.roC, h.lowC⟩

/-- those ahead of one more function -/
theorem SetR.ahead {w0 : World} {W : Nat} {u : UniL} {gp fp : Option Addr} {gc fc : Nat} {mv iv : Value} {w : World} {ro : Nat → Nat} {k n : Nat} {av cv : Value} {A : Nat → Nat} {v : Nat → Nat → Value} {C : Nat → Nat} (h : SetR w0 W u gp fp gc fc mv iv w ro k n av cv A v C)
    (hn : n ≤ 10) {w1 w2 : World} (hb : Below w.heap.size w w1) {T B : Nat} {f : Nat → Value} (hT : Rows2 w1 B T (fnU u k).blocks.length 46 3 (waysL (fnU u k)) f) (hlow : w.heap.size ≤ T) {av' : Value}
    (hown : w2.ownsRow w0.heap.size 94 1 av' (k + 1) (rowsV u A k ++ [.slice (some ⟨T, 0, none⟩) (fnU u k).blocks.length (fnU u k).blocks.length])) (hg : w1.grownBy w2 av.ownBlock) (hat : av'.ownBlock = av.ownBlock ∨ av'.ownBlock = some w1.heap.size) :
    ∃ ro', SetR w0 W u gp fp gc fc mv iv (w2.setCell ⟨W, 2, none⟩ av') ro' (k + 1) n av' cv (upd A k T) (upd v k f) C := by
  have hra : ∀ b, av.ownBlock = some b → ro b = 100 := h.roA
  have zW : W < w.heap.size := (Array.getElem?_eq_some_iff.1 h.head).1
  have hh := h.headAt hb hg hra (by omega)
  obtain ⟨ho, hsz⟩ := h.old hb hg hra 2 av'
  have hTl : T < w1.heap.size := hT.tab.lt
  have hTB := hT.low
  have hw0 := h.below.size
  have hnew : ∀ g, w.heap.size ≤ g → g < w1.heap.size → av'.ownBlock ≠ some g := fun g h1 h2 e => by
    rcases hat with h3 | h3
    · have := (h.ahdO.lt g (h3.symm.trans e)).2
      omega
    · rw [h3] at e
      have := Option.some.inj e
      omega
  have hn1 : ∀ g, w.heap.size ≤ g → g < w1.heap.size → (w2.setCell ⟨W, 2, none⟩ av').heap[g]? = w1.heap[g]? := fun g h1 h2 => by
    rw [Go.Deep.blk_setCell_other w2 ⟨W, 2, none⟩ av' g (fun e => by have e2 : g = W := e; omega)]
    exact hg.block g h2 (fun e => by have := (h.ahdO.lt g e.symm).2; omega)
  have ho2 : ∀ g, g < w.heap.size → ro g ≠ 100 → ro g ≠ 1 → (w2.setCell ⟨W, 2, none⟩ av').heap[g]? = w.heap[g]? := ho
  refine ⟨fun g => if g < w.heap.size then ro g else if av'.ownBlock = some g then 100 else 0, ?_⟩
  have hro : ∀ g, g < w.heap.size → (fun g => if g < w.heap.size then ro g else if av'.ownBlock = some g then 100 else 0) g = ro g := fun g hl => by simp [hl]
  have hro2 : ∀ g, w.heap.size ≤ g → g < w1.heap.size → (fun g => if g < w.heap.size then ro g else if av'.ownBlock = some g then 100 else 0) g = 0 := fun g h1 h2 => by
    simp [Nat.not_lt.2 h1, hnew g h1 h2]
  have hro3 : ∀ g, av'.ownBlock = some g → (fun g => if g < w.heap.size then ro g else if av'.ownBlock = some g then 100 else 0) g = 100 := fun g e => by
    rcases hat with h3 | h3
    · have e2 := h3.symm.trans e
      have hl := (h.ahdO.lt g e2).2
      simp [hl, hra g e2]
    · have e2 : w1.heap.size = g := Option.some.inj (h3.symm.trans e)
      have := hb.size
      simp [show ¬ g < w.heap.size by omega, e]
  generalize (fun g => if g < w.heap.size then ro g else if av'.ownBlock = some g then 100 else 0) = ro' at hro hro2 hro3 ⊢
  have hlt : ∀ {j}, j < k + 1 → j ≠ k → j < k := fun h1 h2 => by omega
  refine ⟨h.keepB hb hg (fun b e => (h.ahdO.lt b e).1) 2 av', ?_, (hro _ zW).trans h.roW, h.lowW, ?_, fun g e => (hro _ (h.memO.lt g e).2).trans (h.roM g e), ?_, hro3, ?_, fun g e => (hro _ (h.cntO.lt g e).2).trans (h.roD g e), fun j hj => ?_, fun j b hj hk => ?_, fun j b hj hk => ?_, fun j b hj hk g e => ?_, fun j hj => ?_, fun j hj => ?_, h.lowC⟩
  · simp only [World.setCell, Array.getElem?_modify, if_pos, hh]
    rfl
  · exact own_block h.memO fun g e => ho2 g (h.memO.lt g e).2 (by rw [h.roM g e]; omega) (by rw [h.roM g e]; omega)
  · rw [rowsV_succ]
    refine own_block hown fun g e => Go.Deep.blk_setCell_other w2 ⟨W, 2, none⟩ av' g (fun e2 => ?_)
    have e3 : g = W := e2
    have h1 := hro3 g e
    rw [e3, hro _ zW, h.roW] at h1
    omega
  · exact own_block h.cntO fun g e => ho2 g (h.cntO.lt g e).2 (by rw [h.roD g e]; omega) (by rw [h.roD g e]; omega)
  · by_cases e : j = k
    · subst e
      rw [upd_at]
      exact ⟨by have := hg.size; rw [Go.Deep.nblk_setCell]; omega, hro2 _ hlow hTl⟩
    · rw [upd_ne _ _ e]
      have h1 := h.ra j (hlt hj e)
      exact ⟨by omega, (hro _ h1.1).trans h1.2⟩
  · by_cases e : j = k
    · subst e
      rw [upd_at, upd_at, cell_block (hn1 _ hlow hTl)]
      exact hT.tab.cell hk
    · rw [upd_ne _ _ e, upd_ne _ _ e]
      have h1 := h.ra j (hlt hj e)
      exact (cell_block (ho2 _ h1.1 (by rw [h1.2]; omega) (by rw [h1.2]; omega))).trans (h.row j b (hlt hj e) hk)
  · by_cases e : j = k
    · subst e
      rw [upd_at]
      have h1 := hT.row b hk
      exact own_low (own_block h1 fun g e => hn1 g (by have := (h1.lt g e).1; omega) (h1.lt g e).2) (by omega)
    · rw [upd_ne _ _ e]
      have h1 := h.own j b (hlt hj e) hk
      exact own_block h1 fun g e2 => ho2 g (h1.lt g e2).2 (by rw [h.rv j b (hlt hj e) hk g e2]; omega) (by rw [h.rv j b (hlt hj e) hk g e2]; omega)
  · by_cases e2 : j = k
    · subst e2
      rw [upd_at] at e
      have h1 := hT.row b hk
      exact hro2 g (by have := (h1.lt g e).1; omega) (h1.lt g e).2
    · rw [upd_ne _ _ e2] at e
      exact (hro _ ((h.own j b (hlt hj e2) hk).lt g e).2).trans (h.rv j b (hlt hj e2) hk g e)
  · have h1 := h.cntR j hj
    exact h1.of_block (ho2 _ h1.lt (by rw [h.roC j hj]; omega) (by rw [h.roC j hj]; omega))
  · exact (hro _ (h.cntR j hj).lt).trans (h.roC j hj)

/-- the counts of one more function -/
theorem SetR.count {w0 : World} {W : Nat} {u : UniL} {gp fp : Option Addr} {gc fc : Nat} {mv iv : Value} {w : World} {ro : Nat → Nat} {k n : Nat} {av cv : Value} {A : Nat → Nat} {v : Nat → Nat → Value} {C : Nat → Nat} (h : SetR w0 W u gp fp gc fc mv iv w ro k n av cv A v C)
    (hn : n ≤ 10) {w1 w2 : World} (hb : Below w.heap.size w w1) {T : Nat} (hT : w1.rowIs T 3 (fnU u n).blocks.length (fun _ => .int .i64 0)) (hlow : w.heap.size ≤ T) {cv' : Value}
    (hown : w2.ownsRow w0.heap.size 46 1 cv' (n + 1) (rowsV u C n ++ [.slice (some ⟨T, 0, none⟩) (fnU u n).blocks.length (fnU u n).blocks.length])) (hg : w1.grownBy w2 cv.ownBlock) (hat : cv'.ownBlock = cv.ownBlock ∨ cv'.ownBlock = some w1.heap.size) :
    ∃ ro', SetR w0 W u gp fp gc fc mv iv (w2.setCell ⟨W, 10, none⟩ cv') ro' k (n + 1) av cv' A v (upd C n T) := by
  have hra : ∀ b, cv.ownBlock = some b → ro b = 102 := h.roD
  have zW : W < w.heap.size := (Array.getElem?_eq_some_iff.1 h.head).1
  have hh := h.headAt hb hg hra (by omega)
  obtain ⟨ho, hsz⟩ := h.old hb hg hra 10 cv'
  have hTl : T < w1.heap.size := hT.lt
  have hw0 := h.below.size
  have hnew : ∀ g, w.heap.size ≤ g → g < w1.heap.size → cv'.ownBlock ≠ some g := fun g h1 h2 e => by
    rcases hat with h3 | h3
    · have := (h.cntO.lt g (h3.symm.trans e)).2
      omega
    · rw [h3] at e
      have := Option.some.inj e
      omega
  have hn1 : ∀ g, w.heap.size ≤ g → g < w1.heap.size → (w2.setCell ⟨W, 10, none⟩ cv').heap[g]? = w1.heap[g]? := fun g h1 h2 => by
    rw [Go.Deep.blk_setCell_other w2 ⟨W, 10, none⟩ cv' g (fun e => by have e2 : g = W := e; omega)]
    exact hg.block g h2 (fun e => by have := (h.cntO.lt g e.symm).2; omega)
  obtain ⟨ro', hro, hro2, hro3⟩ : ∃ ro' : Nat → Nat, (∀ g, g < w.heap.size → ro' g = ro g) ∧ ro' T = 6 + 2 * n ∧ ∀ g, cv'.ownBlock = some g → ro' g = 102 := by
    refine ⟨fun g => if g < w.heap.size then ro g else if cv'.ownBlock = some g then 102 else 6 + 2 * n, fun g hl => by simp [hl], ?_, fun g e => ?_⟩
    · simp [Nat.not_lt.2 hlow, hnew T hlow hTl]
    · rcases hat with h3 | h3
      · have e2 := h3.symm.trans e
        have hl := (h.cntO.lt g e2).2
        simp [hl, hra g e2]
      · have e2 : w1.heap.size = g := Option.some.inj (h3.symm.trans e)
        have := hb.size
        simp [show ¬ g < w.heap.size by omega, e]
  have hlt : ∀ {j}, j < n + 1 → j ≠ n → j < n := fun h1 h2 => by omega
  refine ⟨ro', h.keepB hb hg (fun b e => (h.cntO.lt b e).1) 10 cv', ?_, (hro _ zW).trans h.roW, h.lowW, ?_, fun g e => (hro _ (h.memO.lt g e).2).trans (h.roM g e), ?_, fun g e => (hro _ (h.ahdO.lt g e).2).trans (h.roA g e), ?_, hro3, fun j hj => ?_, fun j b hj hk => ?_, fun j b hj hk => ?_, fun j b hj hk g e => ?_, fun j hj => ?_, fun j hj => ?_, fun j hj => ?_⟩
  · simp only [World.setCell, Array.getElem?_modify, if_pos, hh]
    rfl
  · exact own_block h.memO fun g e => ho g (h.memO.lt g e).2 (by rw [h.roM g e]; omega) (by rw [h.roM g e]; omega)
  · exact own_block h.ahdO fun g e => ho g (h.ahdO.lt g e).2 (by rw [h.roA g e]; omega) (by rw [h.roA g e]; omega)
  · rw [rowsV_succ]
    refine own_block hown fun g e => Go.Deep.blk_setCell_other w2 ⟨W, 10, none⟩ cv' g (fun e2 => ?_)
    have e3 : g = W := e2
    have h1 := hro3 g e
    rw [e3, hro _ zW, h.roW] at h1
    omega
  · have h1 := h.ra j hj
    exact ⟨by omega, (hro _ h1.1).trans h1.2⟩
  · have h1 := h.ra j hj
    exact (cell_block (ho _ h1.1 (by rw [h1.2]; omega) (by rw [h1.2]; omega))).trans (h.row j b hj hk)
  · have h1 := h.own j b hj hk
    exact own_block h1 fun g e2 => ho g (h1.lt g e2).2 (by rw [h.rv j b hj hk g e2]; omega) (by rw [h.rv j b hj hk g e2]; omega)
  · exact (hro _ ((h.own j b hj hk).lt g e).2).trans (h.rv j b hj hk g e)
  · by_cases e : j = n
    · subst e
      rw [upd_at]
      exact hT.of_block (hn1 _ hlow hTl)
    · rw [upd_ne _ _ e]
      have h1 := h.cntR j (hlt hj e)
      have h2 := h.roC j (hlt hj e)
      exact h1.of_block (ho _ h1.lt (by omega) (by omega))
  · by_cases e : j = n
    · subst e
      rw [upd_at]
      exact hro2
    · rw [upd_ne _ _ e]
      exact (hro _ (h.cntR j (hlt hj e)).lt).trans (h.roC j (hlt hj e))
  · by_cases e : j = n
    · subst e
      rw [upd_at]
      omega
    · rw [upd_ne _ _ e]
      exact h.lowC j (hlt hj e)
theorem SetR.start {w0 : World} {W : Nat} {u : UniL} {gp fp : Option Addr} {gc fc : Nat} {mv iv : Value} {w : World} (hz : w0.heap.size = W) (hb : Below w0.heap.size w0 w) (hW : w.heap[W]? = some (.cells (setC u gp fp gc fc (.slice none 0 0) mv iv (.slice none 0 0)) 148 (0, 0)))
    (hown : w.ownsRow (W + 1) 3 1 mv (memU u).length ((memU u).map (.int .i64))) : ∃ ro, SetR w0 W u gp fp gc fc mv iv w ro 0 0 (.slice none 0 0) (.slice none 0 0) (fun _ => 0) (fun _ _ => .slice none 0 0) (fun _ => 0) :=
  ⟨fun g => if g = W then 1 else 2, hb, hW, by simp, by omega, own_low hown (by omega), fun g e => by have := (hown.lt g e).1; simp [show g ≠ W by omega], World.ownsRow_nil _ _ _ _, fun g e => by simp [Value.ownBlock] at e, World.ownsRow_nil _ _ _ _, fun g e => by simp [Value.ownBlock] at e,
    fun j hj => absurd hj (by omega), fun j b hj => absurd hj (by omega), fun j b hj => absurd hj (by omega), fun j b hj => absurd hj (by omega), fun j hj => absurd hj (by omega), fun j hj => absurd hj (by omega), fun j hj => absurd hj (by omega)⟩
/-- a step of the set-up: one row more in the table of counts -/
theorem SetR.cntStep {w0 : World} {W : Nat} {u : UniL} {gp fp : Option Addr} {gc fc : Nat} {mv iv : Value} {w : World} {ro : Nat → Nat} {k n : Nat} {av : Value} {cp : Option Addr} {cc : Nat} {A : Nat → Nat} {v : Nat → Nat → Value} {C : Nat → Nat} (h : SetR w0 W u gp fp gc fc mv iv w ro k n av (.slice cp n cc) A v C)
    (hn : n ≤ 10) {W' : World} (hb : Below w.heap.size w W') (g : Nat) (p : Option Addr) (a b : Nat) (hc : W'.cell? ⟨g, 0, none⟩ = some (.slice p a b)) :
    ∃ v' w', (Builtin.append_ #[94, 94] 94 #[.slice cp n cc, .slice (some ⟨g, 0, none⟩) 1 1]).run Tryd.prog W' = .ok v' w' ∧ ∃ p' c', v' = .slice p' (n + 1) c' ∧ w'.ownsRow w0.heap.size 46 1 (.slice p' (n + 1) c') (n + 1) (rowsV u C n ++ [.slice p a b]) ∧ W'.grownBy w' (Value.slice cp n cc).ownBlock ∧ ((Value.slice p' (n + 1) c').ownBlock = (Value.slice cp n cc).ownBlock ∨ (Value.slice p' (n + 1) c').ownBlock = some W'.heap.size) ∧
      w'.heap[W]? = some (.cells (setC u gp fp gc fc av mv iv (.slice cp n cc)) 148 (0, 0)) := by
  obtain ⟨i3, m1, m2, m3, m4⟩ := info_parts infoInts8
  obtain ⟨v', w', hr, h1, h2, _, h3⟩ := run_append_own_at (P := Tryd.prog) W' w0.heap.size 94 94 46 i3 (.slice none 0 0) 1 24 underRows9 m1 m2 m3 m4 rfl (by decide) _ n _ (ownsRow_below' h.cntO hb) ⟨g, 0, none⟩ 1 1 [.slice p a b] rfl (fun j u hu => by
    cases j with
    | zero => cases hu; simpa [Addr.add_lit] using hc
    | succ j => simp at hu) (by simp [Value.oneCell']) (by unfold maxLen; omega) (by omega) (by have := h.below.size; have := hb.size; omega)
  obtain ⟨p', c', rfl⟩ := own_slice h1
  exact ⟨_, w', hr, p', c', rfl, h1, h2, h3, h.headAt hb h2 h.roD (by omega)⟩
theorem rowsV_get {u : UniL} {A : Nat → Nat} {k j : Nat} (h : j < k) : (rowsV u A k)[j]? = some (.slice (some ⟨A j, 0, none⟩) (fnU u j).blocks.length (fnU u j).blocks.length) := by
  unfold rowsV
  rw [List.getElem?_map, List.getElem?_range h]
  rfl
/-- laid whole: the run can begin -/
theorem SetR.walk {w0 : World} {W : Nat} {u : UniL} {gp fp : Option Addr} {gc fc : Nat} {mv iv : Value} {w : World} {ro : Nat → Nat} {av cv : Value} {A : Nat → Nat} {v : Nat → Nat → Value} {C : Nat → Nat} (h : SetR w0 W u gp fp gc fc mv iv w ro u.funcs.length u.funcs.length av cv A v C)
    (h0 : 0 < u.funcs.length) (hn : u.funcs.length ≤ 10) {inp : List Int} (hi : ∃ p c, iv = .slice p inp.length c ∧ inp.length ≤ c ∧ (p = none → c = 0) ∧ SliceAt w0 1 IntR p inp) :
    ∃ TA ac CT cc, w0.heap.size ≤ CT ∧ Walks ⟨w0, W, gp, fp, gc, fc, TA, ac, A, v, mv, CT, cc, C⟩ u w ⟨memU u, inp, 0, 0, [], 0, [], fun _ _ => 0⟩ := by
  obtain ⟨TA, ac, rfl⟩ : ∃ TA ac, av = .slice (some ⟨TA, 0, none⟩) u.funcs.length ac := by
    rcases h.ahdO.2 with ⟨_, h1⟩ | ⟨g, cap, cur, hv, _⟩
    · omega
    · exact ⟨g, cap, hv⟩
  obtain ⟨CT, cc, rfl⟩ : ∃ CT cc, cv = .slice (some ⟨CT, 0, none⟩) u.funcs.length cc := by
    rcases h.cntO.2 with ⟨_, h1⟩ | ⟨g, cap, cur, hv, _⟩
    · omega
    · exact ⟨g, cap, hv⟩
  have hA := h.roA TA rfl
  have hC := h.roD CT rfl
  refine ⟨TA, ac, CT, cc, (h.cntO.lt CT rfl).1, fun g => if ro g = 100 ∨ ro g = 102 then 0 else ro g, fun _ => 0, iv, .slice none 0 0, .slice none 0 0, ?_⟩
  have h2 : ∀ g, ro g ≠ 100 → ro g ≠ 102 → (fun g => if ro g = 100 ∨ ro g = 102 then 0 else ro g) g = ro g := fun g h1 h2 => by simp [h1, h2]
  have h3 : ∀ g, ro g = 0 → (fun g => if ro g = 100 ∨ ro g = 102 then 0 else ro g) g = 0 := fun g h1 => by simp [h1]
  refine ⟨h.below, h.head, (h2 _ (by rw [h.roW]; omega) (by rw [h.roW]; omega)).trans h.roW, h.lowW, h.memO, fun g e => (h2 _ (by rw [h.roM g e]; omega) (by rw [h.roM g e]; omega)).trans (h.roM g e), World.ownsRow_nil _ _ _ _, fun g e => by simp [Value.ownBlock] at e, World.ownsRow_nil _ _ _ _, fun g e => by simp [Value.ownBlock] at e, trivial, fun i hi => absurd hi (by simp), fun i hi => absurd hi (by simp), hi, fun k hk => by simp [hC], fun k hk => ?_, h.cntR, fun k hk => ?_, h.lowC, ⟨fun k hk => by simp [hA], fun k hk => ?_, fun k b hk hb => h3 _ (h.ra k hk).2, h.row, h.own, fun k b hk hb g e => h3 _ (h.rv k b hk hb g e)⟩⟩
  · have h1 := h.cntO.cells (g := CT) rfl k _ (rowsV_get hk)
    simpa [Addr.add_lit] using h1
  · exact (h2 _ (by rw [h.roC k hk]; omega) (by rw [h.roC k hk]; omega)).trans (h.roC k hk)
  · have h1 := h.ahdO.cells (g := TA) rfl k _ (rowsV_get hk)
    simpa [Addr.add_lit] using h1
theorem set_at {w : World} {k o : Nat} {A A' : Array Value} {T : TypeId} {v : Value} (h : w.heap[k]? = some (.cells A T (0, 0))) (hA : A.setIfInBounds o v = A') : (w.setCell ⟨k, o, none⟩ v).heap[k]? = some (.cells A' T (0, 0)) := by
  rw [heap_set h, hA]
theorem set_off {w : World} {k o j : Nat} {v : Value} (h : j ≠ k) : (w.setCell ⟨k, o, none⟩ v).heap[j]? = w.heap[j]? := Go.Deep.blk_setCell_other w ⟨k, o, none⟩ v j h
theorem cell_drew (w : World) (a : Addr) : w.drew.cell? a = w.cell? a := rfl
/-- an outcome and a fault are told -/
theorem six0 {w : World} {a b : Nat} (hab : a ≠ b) {T T' : TypeId} {x0 x1 x2 x3 y0 y1 : Value} (h0 : w.heap[a]? = some (.cells #[x0, x1, x2, x3] T (0, 0))) (h1 : w.heap[b]? = some (.cells #[y0, y1] T' (0, 0))) (v0 v1 v2 v3 z0 z1 : Value) {B : Nat} (ha : B ≤ a) (hb : B ≤ b) :
    ((((((w.setCell ⟨a, 0, none⟩ v0).setCell ⟨a, 1, none⟩ v1).setCell ⟨a, 2, none⟩ v2).setCell ⟨a, 3, none⟩ v3).setCell ⟨b, 0, none⟩ z0).setCell ⟨b, 1, none⟩ z1).heap[a]? = some (.cells #[v0, v1, v2, v3] T (0, 0)) ∧
    ((((((w.setCell ⟨a, 0, none⟩ v0).setCell ⟨a, 1, none⟩ v1).setCell ⟨a, 2, none⟩ v2).setCell ⟨a, 3, none⟩ v3).setCell ⟨b, 0, none⟩ z0).setCell ⟨b, 1, none⟩ z1).heap[b]? = some (.cells #[z0, z1] T' (0, 0)) ∧
    (∀ c, c ≠ a → c ≠ b → ((((((w.setCell ⟨a, 0, none⟩ v0).setCell ⟨a, 1, none⟩ v1).setCell ⟨a, 2, none⟩ v2).setCell ⟨a, 3, none⟩ v3).setCell ⟨b, 0, none⟩ z0).setCell ⟨b, 1, none⟩ z1).heap[c]? = w.heap[c]?) ∧
    Below B w ((((((w.setCell ⟨a, 0, none⟩ v0).setCell ⟨a, 1, none⟩ v1).setCell ⟨a, 2, none⟩ v2).setCell ⟨a, 3, none⟩ v3).setCell ⟨b, 0, none⟩ z0).setCell ⟨b, 1, none⟩ z1) := by
  refine ⟨?_, ?_, fun c h2 h3 => ?_, ?_⟩
  · rw [set_off hab, set_off hab]
    exact set_at (A := #[v0, v1, v2, x3]) (set_at (A := #[v0, v1, x2, x3]) (set_at (A := #[v0, x1, x2, x3]) (set_at h0 rfl) rfl) rfl) rfl
  · refine set_at (A := #[z0, y1]) (set_at (A := #[y0, y1]) ?_ rfl) rfl
    rw [set_off hab.symm, set_off hab.symm, set_off hab.symm, set_off hab.symm]
    exact h1
  · rw [set_off h3, set_off h3, set_off h2, set_off h2, set_off h2, set_off h2]
  · exact (((((((Below.refl B w).setCell ha _).setCell ha _).setCell ha _).setCell ha _).setCell hb _).setCell hb _)
/-- an outcome and a fault are told -/
theorem six_stores {w : World} {a b : Nat} (hab : a ≠ b) {T T' : TypeId} {x0 x1 x2 x3 y0 y1 : Value} (h0 : w.heap[a]? = some (.cells #[x0, x1, x2, x3] T (0, 0))) (h1 : w.heap[b]? = some (.cells #[y0, y1] T' (0, 0))) (v0 v1 v2 v3 z0 z1 : Value) {B : Nat} (ha : B ≤ a) (hb : B ≤ b) :
    ((((((w.setCell ⟨a, 0, none⟩ v0).setCell ⟨a, 1, none⟩ v1).setCell ⟨a, 2, none⟩ v2).setCell ⟨a, 3, none⟩ v3).setCell ⟨b, 0, none⟩ z0).setCell ⟨b, 1, none⟩ z1).drew.heap[a]? = some (.cells #[v0, v1, v2, v3] T (0, 0)) ∧
    ((((((w.setCell ⟨a, 0, none⟩ v0).setCell ⟨a, 1, none⟩ v1).setCell ⟨a, 2, none⟩ v2).setCell ⟨a, 3, none⟩ v3).setCell ⟨b, 0, none⟩ z0).setCell ⟨b, 1, none⟩ z1).drew.heap[b]? = some (.cells #[z0, z1] T' (0, 0)) ∧
    (∀ c, c ≠ a → c ≠ b → ((((((w.setCell ⟨a, 0, none⟩ v0).setCell ⟨a, 1, none⟩ v1).setCell ⟨a, 2, none⟩ v2).setCell ⟨a, 3, none⟩ v3).setCell ⟨b, 0, none⟩ z0).setCell ⟨b, 1, none⟩ z1).drew.heap[c]? = w.heap[c]?) ∧
    Below B w ((((((w.setCell ⟨a, 0, none⟩ v0).setCell ⟨a, 1, none⟩ v1).setCell ⟨a, 2, none⟩ v2).setCell ⟨a, 3, none⟩ v3).setCell ⟨b, 0, none⟩ z0).setCell ⟨b, 1, none⟩ z1).drew := by
  obtain ⟨h2, h3, h4, h5⟩ := six0 hab h0 h1 v0 v1 v2 v3 z0 z1 ha hb
  have e : ∀ W : World, W.drew.heap = W.heap := fun _ => rfl
  simp only [e]
  exact ⟨h2, h3, h4, h5.drew⟩
def tell6 (w : World) (a b : Nat) (v0 v1 v2 v3 z0 z1 : Value) : World := (((((w.setCell ⟨a, 0, none⟩ v0).setCell ⟨a, 1, none⟩ v1).setCell ⟨a, 2, none⟩ v2).setCell ⟨a, 3, none⟩ v3).setCell ⟨b, 0, none⟩ z0).setCell ⟨b, 1, none⟩ z1
theorem tell6_spec {w : World} {a b : Nat} (hab : a ≠ b) {T T' : TypeId} {x0 x1 x2 x3 y0 y1 : Value} (h0 : w.heap[a]? = some (.cells #[x0, x1, x2, x3] T (0, 0))) (h1 : w.heap[b]? = some (.cells #[y0, y1] T' (0, 0))) (v0 v1 v2 v3 z0 z1 : Value) {B : Nat} (ha : B ≤ a) (hb : B ≤ b) :
    (∀ o, (tell6 w a b v0 v1 v2 v3 z0 z1).cell? ⟨a, o, none⟩ = #[v0, v1, v2, v3][o]?) ∧ (∀ o, (tell6 w a b v0 v1 v2 v3 z0 z1).cell? ⟨b, o, none⟩ = #[z0, z1][o]?) ∧ (∀ c, c ≠ a → c ≠ b → (tell6 w a b v0 v1 v2 v3 z0 z1).heap[c]? = w.heap[c]?) ∧ Below B w (tell6 w a b v0 v1 v2 v3 z0 z1) ∧ a < (tell6 w a b v0 v1 v2 v3 z0 z1).heap.size ∧ b < (tell6 w a b v0 v1 v2 v3 z0 z1).heap.size := by
  unfold tell6
  obtain ⟨h2, h3, h4, h5⟩ := six0 hab h0 h1 v0 v1 v2 v3 z0 z1 ha hb
  exact ⟨(blk h2).1, (blk h3).1, h4, h5, (Array.getElem?_eq_some_iff.1 h2).1, (Array.getElem?_eq_some_iff.1 h3).1⟩
/-- what a run leaves, in memory made since B: how often each block was come to, and what was printed -/
structure RunAt (u : UniL) (w : World) (s : StL) (B CT : Nat) (p : Option Addr) : Prop where
  cnt : ∃ C : Nat → Nat, ∀ k, k < u.funcs.length → w.cell? ⟨CT, k, none⟩ = some (.slice (some ⟨C k, 0, none⟩) (fnU u k).blocks.length (fnU u k).blocks.length) ∧ w.rowIs (C k) 3 (fnU u k).blocks.length (fun b => .int .i64 (s.cnt k b))
  outs : SliceAt w 1 IntR p s.outs
  low : ∀ a, p = some a → B ≤ a.block
theorem WalkR.result {L : Lies} {u : UniL} {w w' : World} {ro R : Nat → Nat} {iv fv : Value} {p : Option Addr} {n c B : Nat} {s : StL} (h : WalkR L u w ro R iv (.slice p n c) fv s) (hi : ∀ x ∈ s.outs, I64 x) (hT : L.w0.heap.size ≤ L.CT) (hB : B ≤ L.w0.heap.size) (hk : ∀ b, L.w0.heap.size ≤ b → w'.heap[b]? = w.heap[b]?) : RunAt u w' s B L.CT p := by
  have ho := own_block (w' := w') h.outO fun g e => hk g (h.outO.lt g e).1
  obtain ⟨p', c', e, hs⟩ := own_ints rfl ho hi
  cases e
  refine ⟨⟨L.C, fun k hk2 => ⟨(cell_block (hk _ hT)).trans (h.cntT k hk2), (h.cntR k hk2).of_block (hk _ (h.lowC k hk2))⟩⟩, hs, fun a e => ?_⟩
  rcases h.outO.2 with ⟨h0, _⟩ | ⟨g, cap, cur, hv, h1, _⟩
  · injection h0 with e1 _ _
    rw [e1] at e
    cases e
  · injection hv with e1 _ _
    rw [e1] at e
    cases e
    exact Nat.le_trans hB h1
/-- a slice's block stays -/
theorem slice_block {α : Type} {w w' : World} {k : Nat} {R : List Value → α → Prop} {p : Option Addr} {xs : List α} (h : SliceAt w k R p xs) (hb : ∀ a, p = some a → w'.heap[a.block]? = w.heap[a.block]?) : SliceAt w' k R p xs := by
  rcases h with h | ⟨b, o, e, h⟩
  · exact .inl h
  · refine .inr ⟨b, o, e, fun i hi => ?_⟩
    obtain ⟨cs, hl, hc, hR⟩ := h i hi
    exact ⟨cs, hl, fun j hj => (cell_block (hb ⟨b, o, none⟩ e)).trans (hc j hj), hR⟩
end Go.Proofs.YtdjamkinijhjoaaDoor
