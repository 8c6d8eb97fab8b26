/-
  Plain: values, instructions, phis, blocks, functions and globals in memory of the call's own.
  Regions that draw their order, operation by operation, under what S says of every world but the last.
  append onto memory of the call's own, in a region that draws its order.
  The contracts of dom.meet and dom.Rules.
  The contracts of ssa's checker: write a register, is a value known.
-/
import Derived.Test.YtdjamkinijhjoaaDoorJChkL
import Derived.Test.YtdjamkinijhjoaaDoorJOwnA
import Derived.Test.YtdjamkinijhjoaaDoorJDomA
import Derived.WalkKit
import Derived.WalkSpells
import Derived.WalkLawsBesides
namespace Go.Proofs.YtdjamkinijhjoaaDoor
open Go.RowKit

def ValO : ElemO (Bool × Int) := fun _ cs v _ => ValR cs v
def IntO : ElemO Int := fun _ cs n _ => IntR cs n
structure SlQ {α : Type} (e : TypeId) (size bytes : Nat) (R : ElemO α) (w : World) (v : Value) (xs : List α) (S : Blks) : Prop where
 sl : SlO e size R w v xs S
 bd : xs.length * bytes ≤ reachBytes
def InsO : ElemO InsL := fun w cs i S => ∃ v, cs = [.int .i64 i.op, .int .i64 i.dst, .bool i.ar, .int .i64 i.an, .bool i.br, .int .i64 i.bn, .int .i64 i.fn, v] ∧
 I64 i.op ∧ I64 i.dst ∧ I64 i.an ∧ I64 i.bn ∧ I64 i.fn ∧ SlQ 45 2 16 ValO w v i.args S
def PhiO : ElemO PhiL := fun w cs x S => ∃ v, cs = [.int .i64 x.dst, v] ∧ I64 x.dst ∧ SlQ 45 2 16 ValO w v x.src S
def BlkO : ElemO BlkL := fun w cs x S => ∃ v1 v2 v3 S1 S2 S3, cs = [v1, v2, .int .i64 x.fin.kind, .bool x.fin.onr, .int .i64 x.fin.onn, v3] ∧ I64 x.fin.kind ∧ I64 x.fin.onn ∧
 SlQ 78 2 32 PhiO w v1 x.phis S1 ∧ SlQ 53 8 80 InsO w v2 x.list S2 ∧ SlQ 3 1 8 IntO w v3 x.fin.to S3 ∧ Apart S1 S2 ∧ Apart S1 S3 ∧ Apart S2 S3 ∧ (∀ k, S1 k → S k) ∧ (∀ k, S2 k → S k) ∧ ∀ k, S3 k → S k
def FunO : ElemO FunL := fun w cs x S => ∃ v, cs = [.string x.name, .int .i64 x.params, .int .i64 x.regs, v] ∧ x.name.size ≤ reachBytes ∧ I64 x.params ∧ I64 x.regs ∧ SlQ 50 6 96 BlkO w v x.blocks S
def GloO : ElemO GloL := fun w cs x S => ∃ v, cs = [.string x.name, .int .i64 x.size, v] ∧ x.name.size ≤ reachBytes ∧ I64 x.size ∧ SlQ 3 1 8 IntO w v x.init S

theorem locVal : LocO ValO := fun _ _ _ _ _ h _ _ => h
theorem locInt : LocO IntO := fun _ _ _ _ _ h _ _ => h
theorem SlQ.loc {α : Type} {e : TypeId} {size bytes : Nat} {R : ElemO α} {w w' : World} {v : Value} {xs : List α} {S T : Blks} (hR : LocO R) (h : SlQ e size bytes R w v xs S) (hs : ∀ k, S k → T k) (hk : ∀ k, T k → w'.heap[k]? = w.heap[k]?) (hz : w.heap.size ≤ w'.heap.size) : SlQ e size bytes R w' v xs S :=
 ⟨h.sl.loc hR (fun k g => hk k (hs k g)) hz, h.bd⟩
theorem locIns : LocO InsO := fun w w' cs x S h hk hs => by
 obtain ⟨v, h0, h1, h2, h3, h4, h5, h6⟩ := h
 exact ⟨v, h0, h1, h2, h3, h4, h5, h6.loc locVal (fun _ g => g) hk hs⟩
theorem locPhi : LocO PhiO := fun w w' cs x S h hk hs => by
 obtain ⟨v, h0, h1, h6⟩ := h
 exact ⟨v, h0, h1, h6.loc locVal (fun _ g => g) hk hs⟩
theorem locBlk : LocO BlkO := fun w w' cs x S h hk hs => by
 obtain ⟨v1, v2, v3, S1, S2, S3, h0, h1, h2, h3, h4, h5, a1, a2, a3, g1, g2, g3⟩ := h
 exact ⟨v1, v2, v3, S1, S2, S3, h0, h1, h2, h3.loc locPhi g1 hk hs, h4.loc locIns g2 hk hs, h5.loc locInt g3 hk hs, a1, a2, a3, g1, g2, g3⟩
theorem locFun : LocO FunO := fun w w' cs x S h hk hs => by
 obtain ⟨v, h0, h1, h2, h3, h6⟩ := h
 exact ⟨v, h0, h1, h2, h3, h6.loc locBlk (fun _ g => g) hk hs⟩
theorem locGlo : LocO GloO := fun w w' cs x S h hk hs => by
 obtain ⟨v, h0, h1, h2, h6⟩ := h
 exact ⟨v, h0, h1, h2, h6.loc locInt (fun _ g => g) hk hs⟩

theorem SlF.outC {α : Type} {w : World} {size bytes : Nat} {R : List Value → α → Prop} {v : Value} {xs : List α} (h : SlF w size bytes R v xs) : ∃ p c, v = .slice p xs.length c ∧ (p = none → xs.length = 0 ∧ c = 0) ∧ xs.length ≤ c ∧ SliceAt w size R p xs := by
 obtain ⟨p, c, h1, h2, h3, _, h5⟩ := h
 exact ⟨p, c, h1, h2, h3, h5⟩
theorem SlF.bdC {α : Type} {w : World} {size bytes : Nat} {R : List Value → α → Prop} {v : Value} {xs : List α} (h : SlF w size bytes R v xs) : xs.length * bytes ≤ reachBytes := by
 obtain ⟨p, c, _, _, _, h4, _⟩ := h
 exact h4
/-! what is owned reads as data -/
theorem SlO.read {α : Type} {e : TypeId} {size : Nat} {R : ElemO α} {R' : List Value → α → Prop} {w : World} {v : Value} {xs : List α} {S : Blks} (hR : LocO R) (hsz : 0 < size) (h : SlO e size R w v xs S) (hr : ∀ cs x T, R w cs x T → R' cs x) :
  ∃ p c, v = .slice p xs.length c ∧ (p = none → xs.length = 0 ∧ c = 0) ∧ xs.length ≤ c ∧ SliceAt w size R' p xs := by
 obtain ⟨p, c, hv, h1, h2⟩ := h.val
 refine ⟨p, c, hv, h1, h2, ?_⟩
 rcases Nat.eq_zero_or_pos xs.length with h0 | h0
 ·exact .inl (List.length_eq_zero_iff.1 h0)
 ·obtain ⟨g, c', cs, T, hv', _⟩ := h.focus hR hsz h0
  rw [hv] at hv'
  injection hv' with hp _ _
  subst hp
  refine .inr ⟨g, 0, rfl, fun i hi => ?_⟩
  obtain ⟨g2, c2, cs2, T2, hv2, _, _, hl, hx, _, _, hc, _⟩ := h.focus hR hsz hi
  rw [hv] at hv2
  injection hv2 with hp2 _ _
  cases hp2
  refine ⟨cs2, hl, fun j hj => ?_, hr _ _ _ hx⟩
  rw [Nat.zero_add]
  exact hc j hj
theorem SlQ.read {α : Type} {e : TypeId} {size bytes : Nat} {R : ElemO α} {R' : List Value → α → Prop} {w : World} {v : Value} {xs : List α} {S : Blks} (hR : LocO R) (hsz : 0 < size) (h : SlQ e size bytes R w v xs S) (hr : ∀ cs x T, R w cs x T → R' cs x) : SlF w size bytes R' v xs := by
 obtain ⟨p, c, hv, h1, h2, h3⟩ := h.sl.read hR hsz hr
 exact ⟨p, c, hv, h1, h2, h.bd, h3⟩
theorem InsO.read {w : World} {cs : List Value} {x : InsL} {S : Blks} (h : InsO w cs x S) : InsR w cs x := by
 obtain ⟨v, h0, h1, h2, h3, h4, h5, h6⟩ := h
 exact ⟨v, h0, h1, h2, h3, h4, h5, h6.read locVal (by omega) fun _ _ _ h => h⟩
theorem PhiO.read {w : World} {cs : List Value} {x : PhiL} {S : Blks} (h : PhiO w cs x S) : PhiR w cs x := by
 obtain ⟨v, h0, h1, h6⟩ := h
 exact ⟨v, h0, h1, h6.read locVal (by omega) fun _ _ _ h => h⟩
theorem BlkO.read {w : World} {cs : List Value} {x : BlkL} {S : Blks} (h : BlkO w cs x S) : BlkR w cs x := by
 obtain ⟨v1, v2, v3, S1, S2, S3, h0, h1, h2, h3, h4, h5, _⟩ := h
 exact ⟨v1, v2, v3, h0, h1, h2, h3.read locPhi (by omega) fun _ _ _ h => h.read, h4.read locIns (by omega) fun _ _ _ h => h.read, h5.read locInt (by omega) fun _ _ _ h => h⟩
theorem FunO.read {w : World} {cs : List Value} {x : FunL} {S : Blks} (h : FunO w cs x S) : FunR w cs x := by
 obtain ⟨v, h0, h1, h2, h3, h6⟩ := h
 exact ⟨v, h0, h1, h2, h3, h6.read locBlk (by omega) fun _ _ _ h => h.read⟩
theorem GloO.read {w : World} {cs : List Value} {x : GloL} {S : Blks} (h : GloO w cs x S) : GloR w cs x := by
 obtain ⟨v, h0, h1, h2, h6⟩ := h
 exact ⟨v, h0, h1, h2, h6.read locInt (by omega) fun _ _ _ h => h⟩

theorem SlO.flat {α : Type} {e : TypeId} {size base : Nat} {R : ElemO α} {w : World} {v : Value} {xs : List α} {cs : Nat → List Value} (h : w.ownsRow base e size v xs.length ((List.range xs.length).flatMap cs)) (hl : ∀ i, i < xs.length → (cs i).length = size) (h1 : ∀ i, i < xs.length → ∀ u ∈ cs i, u.oneCell' = true)
  (hx : ∀ i (hi : i < xs.length), R w (cs i) xs[i] (fun _ => False)) : SlO e size R w v xs (fun k => v.ownBlock = some k) := by
 refine ⟨cs, fun _ _ => False, ⟨ownsRow_base h (Nat.zero_le _), hl, h1, hx, fun _ _ _ _ _ _ a _ => a, fun _ _ _ _ a => a, fun _ hg => hg, fun _ _ _ a => a.elim, fun k hk => (h.lt k hk).2⟩⟩
end Go.Proofs.YtdjamkinijhjoaaDoor
namespace Go.Proofs.YtdjamkinijhjoaaDoor
open Go.RowKit Go.Shelf

section
variable {P : Program} {md : Region.Mode} {ops : Array Oper} {Q : Exit → Act → World → Prop} {S : World → Prop} {z : Nat}
theorem takeZ (i d : Nat) (v : Value) {oi : Oper} {fuel : Nat} {listed : Array Bool} {a : Act} {w : World} (hi : ops[i]? = some oi) (hd : oi.dst = some d) (hw : waitsB md ops z i = true)
  (hs : Region.noSelect ops = true) (hf : Region.free md ops listed i = true) (hr : (Region.ready md ops listed).contains i = true)
  (hQ : ∀ c a w, Q (.panic c) (a.put (some d) v) w → Q (.panic c) a w) (hy : YieldsIf P ops S oi v a) (hS : S w)
  (h : wpAnyZ P md ops Q S z fuel (listed.setIfInBounds i true) (a.put (some d) v) w) : wpAnyZ P md ops Q S z (fuel + 1) listed a w :=
 wpAnyZ_take hi hw hs hf hr (by rw [hd]; exact hQ) hy hS (by rw [hd]; exact h)
theorem stepZ_val {i : Nat} {o : Oper} {fuel : Nat} {listed : Array Bool} {a : Act} {w : World} (v : Value) (w' : World) (ho : ops[i]? = some o) (hg : o.guard = none) (h : (execOp a.eval o).run P w = .ok (.value v) w') (hS : S w')
  (hk : wpAnyZ P md ops Q S z fuel (listed.setIfInBounds i true) (a.put o.dst v) w') : wpOp P ops Q i (fun a' w' => (i ≠ z → S w') ∧ wpAnyZ P md ops Q S z fuel (listed.setIfInBounds i true) a' w') a w :=
 wpOp_one ho hg (wp_of_run h ⟨fun _ => hS, hk⟩)
theorem stepZ_to {i : Nat} {o : Oper} {fuel : Nat} {listed : Array Bool} {a : Act} {w : World} (d : Nat) (v : Value) (w' : World) (ho : ops[i]? = some o) (hd : o.dst = some d) (hg : o.guard = none) (h : (execOp a.eval o).run P w = .ok (.value v) w') (hS : S w')
  (hk : wpAnyZ P md ops Q S z fuel (listed.setIfInBounds i true) (a.put (some d) v) w') : wpOp P ops Q i (fun a' w' => (i ≠ z → S w') ∧ wpAnyZ P md ops Q S z fuel (listed.setIfInBounds i true) a' w') a w :=
 stepZ_val v w' ho hg h hS (by rw [hd]; exact hk)
theorem stepZ_skip {i : Nat} {o : Oper} {fuel : Nat} {listed : Array Bool} {a : Act} {w : World} (w' : World) (ho : ops[i]? = some o) (hg : o.guard = none) (h : (execOp a.eval o).run P w = .ok .skip w') (hS : i ≠ z → S w')
  (hk : wpAnyZ P md ops Q S z fuel (listed.setIfInBounds i true) (a.put o.dst undef) w') : wpOp P ops Q i (fun a' w' => (i ≠ z → S w') ∧ wpAnyZ P md ops Q S z fuel (listed.setIfInBounds i true) a' w') a w :=
 wpOp_one ho hg (wp_of_skip h ⟨hS, hk⟩)
theorem stepZ_call {i : Nat} {o : Oper} {fuel : Nat} {listed : Array Bool} {a : Act} {w : World} {f : FuncId} {args : Array Value} {R : Ending → World → Prop} (ho : ops[i]? = some o) (hg : o.guard = none)
  (h : (execOp a.eval o).run P w = .ok (.enter f args) w) (hc : Calls P f args w R) (hk : ∀ e w', R e w' → ∃ v, e = .returned v ∧ S w' ∧ wpAnyZ P md ops Q S z fuel (listed.setIfInBounds i true) (a.put o.dst v) w') : wpOp P ops Q i (fun a' w' => (i ≠ z → S w') ∧ wpAnyZ P md ops Q S z fuel (listed.setIfInBounds i true) a' w') a w := by
 refine wpOp_one ho hg ?_
 unfold Oper.wp
 rw [h]
 refine hc.mono fun e w' he => ?_
 obtain ⟨v, rfl, h1, h2⟩ := hk e w' he
 exact ⟨fun _ => h1, h2⟩
theorem stepZ_callTo {i : Nat} {o : Oper} {fuel : Nat} {listed : Array Bool} {a : Act} {w : World} {f : FuncId} {args : Array Value} {R : Ending → World → Prop} (d : Nat) (ho : ops[i]? = some o) (hd : o.dst = some d) (hg : o.guard = none)
  (h : (execOp a.eval o).run P w = .ok (.enter f args) w) (hc : Calls P f args w R) (hk : ∀ e w', R e w' → ∃ v, e = .returned v ∧ S w' ∧ wpAnyZ P md ops Q S z fuel (listed.setIfInBounds i true) (a.put (some d) v) w') : wpOp P ops Q i (fun a' w' => (i ≠ z → S w') ∧ wpAnyZ P md ops Q S z fuel (listed.setIfInBounds i true) a' w') a w :=
 stepZ_call ho hg h hc (by rw [hd]; exact hk)
theorem stepZ_skipNo {i : Nat} {o : Oper} {fuel : Nat} {listed : Array Bool} {a : Act} {w : World} (w' : World) (ho : ops[i]? = some o) (hd : o.dst = none) (hg : o.guard = none) (h : (execOp a.eval o).run P w = .ok .skip w') (hS : i ≠ z → S w')
  (hk : wpAnyZ P md ops Q S z fuel (listed.setIfInBounds i true) a w') : wpOp P ops Q i (fun a' w' => (i ≠ z → S w') ∧ wpAnyZ P md ops Q S z fuel (listed.setIfInBounds i true) a' w') a w :=
 stepZ_skip w' ho hg h hS (by rw [hd]; exact hk)
theorem stepZ_1 {i : Nat} {fuel : Nat} {listed : Array Bool} {a : Act} {w : World} (hr : Region.ready md ops listed = [i])
  (h1 : wpOp P ops Q i (fun a' w' => (i ≠ z → S w') ∧ wpAnyZ P md ops Q S z fuel (listed.setIfInBounds i true) a' w') a w) : wpAnyZ P md ops Q S z (fuel + 1) listed a w :=
 wpAnyZ_all hr (by simp) fun m hm => by
  obtain rfl : m = i := by simpa using hm
  exact h1
theorem stepZ_2 {i j : Nat} {fuel : Nat} {listed : Array Bool} {a : Act} {w : World} (hr : Region.ready md ops listed = [i, j])
  (h1 : wpOp P ops Q i (fun a' w' => (i ≠ z → S w') ∧ wpAnyZ P md ops Q S z fuel (listed.setIfInBounds i true) a' w') a w)
  (h2 : wpOp P ops Q j (fun a' w' => (j ≠ z → S w') ∧ wpAnyZ P md ops Q S z fuel (listed.setIfInBounds j true) a' w') a w) : wpAnyZ P md ops Q S z (fuel + 1) listed a w :=
 wpAnyZ_all hr (by simp) fun m hm => by
  rcases List.mem_cons.1 hm with rfl | hm
  ·exact h1
  obtain rfl : m = j := by simpa using hm
  exact h2
end

end Go.Proofs.YtdjamkinijhjoaaDoor
namespace Go.Proofs.YtdjamkinijhjoaaDoor
open Go.RowKit Go.Shelf

theorem exec_append {P : Program} {o : Oper} {a : Act} {w w' : World} {s x : Operand} {t : TypeId} {u v v' : Value} (ho : o.op = .call { callee := .builtin .append, args := #[s, x], argTypes := #[t, t] }) (hs : a.eval s = v) (hx : a.eval x = u) (h : (Builtin.append_ #[t, t] o.type #[v, u]).run P w = .ok v' w') :
  (execOp a.eval o).run P w = .ok (.value v') w' := by
 unfold execOp
 simp only [ho, resolve, invoke, builtin, Sem.run_bind, Sem.run_pure, Result.andThen_ok, List.map_toArray, List.map_cons, List.map_nil, hs, hx, h]
section
variable {P : Program} {md : Region.Mode} {ops : Array Oper} {Q : Exit → Act → World → Prop} {S : World → Prop} {z : Nat} {α : Type} {R : ElemO α}
theorem stepZ_append {i : Nat} {o : Oper} {fuel : Nat} {listed : Array Bool} {a : Act} {w : World} (d : Nat) (s x : Operand) (t : TypeId) (ho : ops[i]? = some o) (hop : o.op = .call { callee := .builtin .append, args := #[s, x], argTypes := #[t, t] }) (hd : o.dst = some d) (hg : o.guard = none)
  (e : TypeId) (ti : TypeInfo) (zv : Value) (size bytes : Nat) (ht : P.underlying t = some (.slice e)) (hi : P.info? e = some ti) (hz : ti.zero = some zv)
  (hsize : ti.size = size) (hby : ti.bytes = bytes) (hzs : zv.cells.size = size) (hsz : 0 < size) (hR : LocO R)
  {v : Value} {xs : List α} {U T : Blks} (hs : a.eval s = v) (hO : SlO e size R w v xs U)
  (ad : Addr) (cc : Nat) (c : List Value) (y : α) (hx : a.eval x = .slice (some ad) 1 cc) (hl : c.length = size) (hnews : ∀ j u, c[j]? = some u → w.cell? (ad.add j) = some u) (h1 : ∀ u ∈ c, u.oneCell' = true) (hy : R w c y T) (hT : Apart U T) (hTi : InB w T)
  (h63 : xs.length + 1 ≤ maxLen) (hbytes : (xs.length + 1) * bytes ≤ 140737488355328)
  (hk : ∀ v' w', Snoc e size R w (xs ++ [y]) U T v' w' → S w' ∧ wpAnyZ P md ops Q S z fuel (listed.setIfInBounds i true) (a.put (some d) v') w') :
  wpOp P ops Q i (fun a' w' => (i ≠ z → S w') ∧ wpAnyZ P md ops Q S z fuel (listed.setIfInBounds i true) a' w') a w := by
 obtain ⟨v', w', hr, h2⟩ := run_append_slo (P := P) w t o.type e ti zv size bytes ht hi hz hsize hby hzs hsz hR hO ad cc c y hl hnews h1 hy hT hTi h63 hbytes
 obtain ⟨h3, h4⟩ := hk v' w' h2
 exact stepZ_to d v' w' ho hd hg (exec_append hop hs hx hr) h3 h4
end
end Go.Proofs.YtdjamkinijhjoaaDoor
namespace Go.Proofs.YtdjamkinijhjoaaDoor
open Go.RowKit

structure TreeW (w : World) (U P n : Nat) (t : TypeId) (u : Nat → Int) (pl : Nat → Nat) : Prop where
 up : w.rowIs U t n (fun j => .int .i64 (u j))
 at_ : w.rowIs P t n (fun j => .int .i64 (pl j))

theorem rowI_below {w w' : World} {b : Nat} {t : TypeId} {n : Nat} {f : Nat → Value} (h : w.rowIs b t n f) (hb : Below w.heap.size w w') : w'.rowIs b t n f := h.of_block (hb.block b h.lt)
theorem TreeW.below {w w' : World} {U P n : Nat} {t : TypeId} {u : Nat → Int} {pl : Nat → Nat} (h : TreeW w U P n t u pl) (hb : Below w.heap.size w w') : TreeW w' U P n t u pl := ⟨rowI_below h.up hb, rowI_below h.at_ hb⟩
theorem meetN_succ {up pl : Nat → Nat} (k a b : Nat) : meetN up pl (k + 1) a b = if a = b then a else if pl a < pl b then meetN up pl k (up b) a else meetN up pl k (up a) b := rfl
set_option maxHeartbeats 1000000 in
theorem meet_any {w : World} {U P n : Nat} {u : Nat → Int} {pl : Nat → Nat} {R : Nat → Prop} (hT : TreeW w U P n 3 u pl) (h : DomI R pl (mkN u) (upN u)) (hn : ∀ c, R c → c < n) (a b : Nat) (ha : mkN u a) (hb : mkN u b) :
  Calls Tryd.prog 103 #[.slice (some ⟨U, 0, none⟩) n n, .slice (some ⟨P, 0, none⟩) n n, .int .i64 a, .int .i64 b] w fun e w' => e = .returned (.int .i64 (meetN (upN u) pl (pl a + pl b + 1) a b : Nat)) ∧ Below w.heap.size w w' := by
 have HT := hidI hT
 have HI := hidI h
 have HN := hidI hn
 have HA := hidI ha
 have HB := hidI hb
 clear hT h hn ha hb
 go_enter Tryd.func103, Tryd.ntmps103
 go_wp2
 go_loopw [2, 3] (fun x y wr => ∃ (k c d : Nat), x = .int .i64 c ∧ y = .int .i64 d ∧ mkN u c ∧ mkN u d ∧ pl c + pl d < k ∧ meetN (upN u) pl k c d = meetN (upN u) pl (pl a + pl b + 1) a b ∧ Below w.heap.size w wr) (fun x y _ => pl (intOf x).toNat + pl (intOf y).toNat)
 case atStart => exact ⟨_, a, b, rfl, rfl, HA.out, HB.out, by omega, rfl, Below.refl _ _⟩
 case round =>
  obtain ⟨k, c, d, rfl, rfl, hc, hd, hk, hm, hb⟩ := hrel
  have HT2 := (HT.out.below hb)
  have HB1 := hidI hb
  clear hb
  obtain ⟨k, rfl⟩ : ∃ k', k = k' + 1 := ⟨k - 1, by omega⟩
  have hcn := HN.out _ (HI.out.reach _ hc)
  have hdn := HN.out _ (HI.out.reach _ hd)
  have c1 := HT2.up.cell hcn
  have c2 := HT2.up.cell hdn
  have c3 := HT2.at_.cell hcn
  have c4 := HT2.at_.cell hdn
  clear HT2
  have HC := hidI hc
  have HD := hidI hd
  rw [meetN_succ k c d] at hm
  by_cases e : c = d
  ·subst e
   rw [if_pos rfl] at hm
   have HM := hidI hm
   clear hm hc hd
   go_wp2
   go_ret
   exact ⟨by rw [← HM.out]; rfl, by repeat (first | (with_reducible first | exact bR _ _ | exact bH ‹_› | refine bD ?_ | refine bN ?_ _ | refine bS ?_ ?_ _ | refine bA ?_ ?_ _ | refine bT hb3 ?_ ?_ | refine bT hb5 ?_ ?_ | refine bT hb4 ?_ ?_) | omega | (simp; omega) | simp)⟩
  ·rw [if_neg e] at hm
   have hne : ¬ ((c : Int) = d) := by omega
   have hpl : pl c ≠ pl d := fun e2 => e (HI.out.one _ _ (HI.out.reach _ hc) (HI.out.reach _ hd) e2)
   by_cases hl : pl c < pl d
   ·rw [if_pos hl] at hm
    have hd0 : d ≠ 0 := fun e0 => by
     have := HI.out.rootAt
     rw [e0] at hl; omega
    have h2 := HI.out.less _ hd hd0
    have hu := HI.out.mkUp _ hd
    have e2 : u d = ((upN u d : Nat) : Int) := by
     have : 0 ≤ u d := hd
     unfold upN; omega
    rw [e2] at c2
    have HM := hidI hm
    have HU := hidI hu
    have hl2 : (pl c : Int) < pl d := by omega
    have HP := hidI hpl
    clear hm hc hd hu e2 hpl hd0
    go_wp2
    go_quiet (fail)
    go_wp2
    exact ⟨⟨k, _, _, rfl, rfl, HU.out, HC.out, by omega, HM.out, by repeat (first | (with_reducible first | exact bR _ _ | exact bH ‹_› | refine bD ?_ | refine bN ?_ _ | refine bS ?_ ?_ _ | refine bA ?_ ?_ _ | refine bT hb3 ?_ ?_ | refine bT hb5 ?_ ?_ | refine bT hb4 ?_ ?_) | omega | (simp; omega) | simp)⟩, by simp [intOf]; omega⟩
   ·rw [if_neg hl] at hm
    have hc0 : c ≠ 0 := fun e0 => by
     have := HI.out.rootAt
     rw [e0] at hl hpl; omega
    have h2 := HI.out.less _ hc hc0
    have hu := HI.out.mkUp _ hc
    have e2 : u c = ((upN u c : Nat) : Int) := by
     have : 0 ≤ u c := hc
     unfold upN; omega
    rw [e2] at c1
    have HM := hidI hm
    have HU := hidI hu
    have hl2 : ¬ ((pl c : Int) < pl d) := by omega
    have HP := hidI hpl
    clear hm hc hd hu e2 hpl hc0
    go_wp2
    go_quiet (fail)
    go_wp2
    exact ⟨⟨k, _, _, rfl, rfl, HU.out, HD.out, by omega, HM.out, by repeat (first | (with_reducible first | exact bR _ _ | exact bH ‹_› | refine bD ?_ | refine bN ?_ _ | refine bS ?_ ?_ _ | refine bA ?_ ?_ _ | refine bT hb3 ?_ ?_ | refine bT hb5 ?_ ?_ | refine bT hb4 ?_ ?_) | omega | (simp; omega) | simp)⟩, by simp [intOf]; omega⟩

def rulesN (u : Nat → Int) (a : Int) : Nat → Int → Bool
 | 0, b => a == b
 | k + 1, b => if 0 ≤ b ∧ b ≠ a then rulesN u a k (u b.toNat) else a == b

def topN (pl : Nat → Nat) (d : Int) : Nat := if 0 ≤ d then pl d.toNat + 1 else 0
theorem topN_nat {pl : Nat → Nat} {c : Nat} : topN pl c = pl c + 1 := by unfold topN; simp
theorem topN_up {pl : Nat → Nat} {u : Nat → Int} {c : Nat} (h : 0 ≤ u c → pl (u c).toNat < pl c) : topN pl (u c) < topN pl (c : Int) := by
 rw [topN_nat]
 unfold topN
 split
 ·have := h (by assumption); omega
 ·omega
theorem rulesN_succ {u : Nat → Int} {a : Int} (k : Nat) (b : Int) : rulesN u a (k + 1) b = if 0 ≤ b ∧ b ≠ a then rulesN u a k (u b.toNat) else a == b := rfl
set_option maxHeartbeats 1000000 in
theorem rules_any {w : World} {U n : Nat} {u : Nat → Int} {pl : Nat → Nat} (hU : w.rowIs U 3 n (fun j => .int .i64 (u j))) (hI : ∀ c, c < n → -1 ≤ u c ∧ u c < n ∧ (0 ≤ u c → pl (u c).toNat < pl c)) (a b : Nat) (_ha : a < n) (hb : b < n) :
  Calls Tryd.prog 134 #[.slice (some ⟨U, 0, none⟩) n n, .int .i64 a, .int .i64 b] w fun e w' => e = .returned (.bool (rulesN u a (pl b + 2) b)) ∧ Below w.heap.size w w' := by
 have HU := hidI hU
 have HI := hidI hI
 clear hU hI
 go_enter Tryd.func134, Tryd.ntmps134
 go_wp2
 go_loopw [2] (fun y wr => ∃ (k : Nat) (d : Int), y = .int .i64 d ∧ -1 ≤ d ∧ d < n ∧ topN pl d < k ∧ rulesN u a k d = rulesN u a (pl b + 2) b ∧ Below w.heap.size w wr) (fun y _ => topN pl (intOf y))
 case atStart => exact ⟨pl b + 2, b, rfl, by omega, by omega, by rw [topN_nat]; omega, rfl, Below.refl _ _⟩
 case round =>
  obtain ⟨k, d, rfl, h1, h2, hk, hm, hb⟩ := hrel
  have HB1 := hidI hb
  clear hb
  obtain ⟨k, rfl⟩ : ∃ k', k = k' + 1 := ⟨k - 1, by omega⟩
  rw [rulesN_succ k d] at hm
  by_cases h0 : 0 ≤ d
  ·obtain ⟨c, rfl⟩ : ∃ c : Nat, d = c := ⟨d.toNat, by omega⟩
   have hcn : c < n := by omega
   have c1 := (rowI_below HU.out HB1.out).cell hcn
   by_cases e : c = a
   ·subst e
    rw [if_neg (by simp)] at hm
    have HM := hidI hm
    clear hm hk
    go_wp2
    go_ret
    exact ⟨by rw [← HM.out]; simp, by repeat (first | (with_reducible first | exact bR _ _ | exact bH ‹_› | refine bD ?_ | refine bN ?_ _ | refine bS ?_ ?_ _ | refine bA ?_ ?_ _ | refine bT hb3 ?_ ?_ | refine bT hb5 ?_ ?_ | refine bT hb4 ?_ ?_) | omega | (simp; omega) | simp)⟩
   ·have hne : ¬ ((c : Int) = a) := by omega
    rw [if_pos ⟨h0, hne⟩] at hm
    have HM := hidI hm
    have h3 := HI.out c hcn
    have HX := hidI h3
    have HK := hidI hk
    clear hm h3 hk
    go_wp2
    obtain ⟨h4, h5, h6⟩ := HX.out
    have h7 := topN_up h6
    exact ⟨⟨k, _, rfl, h4, h5, by have := HK.out; omega, HM.out, by repeat (first | (with_reducible first | exact bR _ _ | exact bH ‹_› | refine bD ?_ | refine bN ?_ _ | refine bS ?_ ?_ _ | refine bA ?_ ?_ _ | refine bT hb3 ?_ ?_ | refine bT hb5 ?_ ?_ | refine bT hb4 ?_ ?_) | omega | (simp; omega) | simp)⟩, h7⟩
  ·rw [if_neg (by omega)] at hm
   have hne : ¬ ((a : Int) = d) := by omega
   have HM := hidI hm
   clear hm hk
   go_wp2
   go_ret
   exact ⟨by rw [← HM.out]; simp, by repeat (first | (with_reducible first | exact bR _ _ | exact bH ‹_› | refine bD ?_ | refine bN ?_ _ | refine bS ?_ ?_ _ | refine bA ?_ ?_ _ | refine bT hb3 ?_ ?_ | refine bT hb5 ?_ ?_ | refine bT hb4 ?_ ?_) | omega | (simp; omega) | simp)⟩
end Go.Proofs.YtdjamkinijhjoaaDoor
namespace Go.Proofs.YtdjamkinijhjoaaDoor
open Go.RowKit

def wrF (wb : Nat → Int × Int) (j : Nat) : Value := .int .i64 (if j % 2 = 0 then (wb (j / 2)).1 else (wb (j / 2)).2)
def wrPut (wb : Nat → Int × Int) (r : Nat) (b a : Int) : Nat → Int × Int := fun i => if i = r ∧ (wb r).1 < 0 then (b, a) else wb i
theorem wrF_0 (wb : Nat → Int × Int) (r : Nat) : wrF wb (r * 2) = .int .i64 (wb r).1 := by
 have e : r * 2 / 2 = r := by omega
 unfold wrF
 rw [if_pos (by omega), e]
theorem wrF_1 (wb : Nat → Int × Int) (r : Nat) : wrF wb (r * 2 + 1) = .int .i64 (wb r).2 := by
 have e : (r * 2 + 1) / 2 = r := by omega
 unfold wrF
 rw [if_neg (by omega), e]
theorem wrPut_no {wb : Nat → Int × Int} {r : Nat} {b a : Int} (h : ¬ (wb r).1 < 0) : wrPut wb r b a = wb := by
 funext i; unfold wrPut; rw [if_neg (fun g => h g.2)]
theorem wrPut_row {wb : Nat → Int × Int} {r : Nat} {b a : Int} (h : (wb r).1 < 0) {w : World} {B n : Nat} {t : TypeId} (hR : w.rowIs B t n (wrF wb)) :
  ((w.setCell ⟨B, r * 2, none⟩ (.int .i64 b)).setCell ⟨B, r * 2 + 1, none⟩ (.int .i64 a)).rowIs B t n (wrF (wrPut wb r b a)) := by
 refine ((hR.set (r * 2) (.int .i64 b)).set (r * 2 + 1) (.int .i64 a)).congr fun j _ => ?_
 by_cases e : j / 2 = r
 ·have hj : j = r * 2 ∨ j = r * 2 + 1 := by omega
  rcases hj with rfl | rfl
  ·rw [if_neg (by omega), if_pos rfl, wrF_0]
   unfold wrPut; rw [if_pos ⟨rfl, h⟩]
  ·rw [if_pos rfl, wrF_1]
   unfold wrPut; rw [if_pos ⟨rfl, h⟩]
 ·rw [if_neg (by omega), if_neg (by omega)]
  unfold wrF wrPut
  have e2 : ¬ (j / 2 = r ∧ (wb r).1 < 0) := fun g => e g.1
  simp only [e2, if_false]

set_option maxRecDepth 100000 in
set_option maxHeartbeats 1000000 in
theorem write_any (C B R r : Nat) (b a : Int) (wb : Nat → Int × Int) (w : World) (hr : r < R) (_hR0 : R ≤ 1000) (hbox : w.cell? ⟨C, 5, none⟩ = some (.slice (some ⟨B, 0, none⟩) R R)) (hR : w.rowIs B 122 (R * 2) (wrF wb)) :
  Calls Tryd.prog 107 #[.pointer (some ⟨C, 0, none⟩), .int .i64 r, .int .i64 b, .int .i64 a] w fun e w' => e = .returned (.bool (decide ((wb r).1 < 0))) ∧ w'.rowIs B 122 (R * 2) (wrF (wrPut wb r b a)) ∧ Kept (fun k => k = B) w w' := by
 have c0 := hR.cell (i := r * 2) (by omega)
 have c1 := hR.cell (i := r * 2 + 1) (by omega)
 have f0 := hR.frozen (r * 2)
 have f1 := hR.frozen (r * 2 + 1)
 rw [wrF_0] at c0
 rw [wrF_1] at c1
 have HR := hidI hR
 clear hR
 by_cases h : (wb r).1 < 0
 ·have h2 : decide (0 ≤ (wb r).1) = false := by simp; omega
  have H := hidI h
  have hd : decide ((wb r).1 < 0) = true := by simp [h]
  rw [hd]
  clear h hd
  go_enter Tryd.func107, Tryd.ntmps107
  go_wp2
  go_ret
  exact ⟨rfl, wrPut_row H.out HR.out, Kept.setCell (p := ⟨B, _, none⟩) (Kept.setCell (p := ⟨B, _, none⟩) (Kept.refl (fun k => k = B) w) rfl _) rfl _⟩
 ·have h2 : decide (0 ≤ (wb r).1) = true := by simp; omega
  have H := hidI h
  have hd : decide ((wb r).1 < 0) = false := by simp; omega
  rw [hd]
  clear h hd
  go_enter Tryd.func107, Tryd.ntmps107
  go_wp2
  go_ret
  exact ⟨rfl, by rw [wrPut_no (by have := H.out; omega)]; exact HR.out, Kept.refl _ _⟩

def knB (wb : Nat → Int × Int) (u : Nat → Int) (pl : Nat → Nat) (vr : Bool) (vn : Int) (block : Nat) (at_ : Int) : Bool :=
 if vr = false then true
 else if (wb vn.toNat).1 < 0 then false
 else if (wb vn.toNat).1 = block then decide ((wb vn.toNat).2 < at_)
 else rulesN u (wb vn.toNat).1.toNat (pl block + 2) block
def TreeU (n : Nat) (u : Nat → Int) (pl : Nat → Nat) : Prop := ∀ c, c < n → -1 ≤ u c ∧ u c < n ∧ (0 ≤ u c → pl (u c).toNat < pl c)
set_option maxRecDepth 100000 in
set_option maxHeartbeats 1000000 in
theorem known_any (C B R U n block : Nat) (vr : Bool) (vn at_ : Int) (wb : Nat → Int × Int) (u : Nat → Int) (pl : Nat → Nat) (w : World) (hv : vr = true → 0 ≤ vn ∧ vn < R) (_hR0 : R ≤ 1000) (hbox : w.cell? ⟨C, 5, none⟩ = some (.slice (some ⟨B, 0, none⟩) R R)) (hbox4 : w.cell? ⟨C, 4, none⟩ = some (.slice (some ⟨U, 0, none⟩) n n))
  (hR : w.rowIs B 122 (R * 2) (wrF wb)) (hU : w.rowIs U 3 n (fun j => .int .i64 (u j))) (hT : TreeU n u pl) (hwb : ∀ r, r < R → (wb r).1 < n) (hb : block < n) :
  Calls Tryd.prog 108 #[.pointer (some ⟨C, 0, none⟩), .agg #[.bool vr, .int .i64 vn], .int .i64 block, .int .i64 at_] w fun e w' => e = .returned (.bool (knB wb u pl vr vn block at_)) ∧ Below w.heap.size w w' := by
 cases vr with
 | false =>
  clear hR hU hT
  go_enter Tryd.func108, Tryd.ntmps108
  go_wp2
  go_ret
  exact ⟨rfl, by repeat (first | (with_reducible first | exact bR _ _ | exact bH ‹_› | refine bD ?_ | refine bN ?_ _ | refine bS ?_ ?_ _ | refine bA ?_ ?_ _ | refine bT hb3 ?_ ?_ | refine bT hb5 ?_ ?_ | refine bT hb4 ?_ ?_) | omega | (simp; omega) | simp)⟩
 | true =>
  obtain ⟨h1, h2⟩ := hv rfl
  obtain ⟨r, rfl⟩ : ∃ r : Nat, vn = r := ⟨vn.toNat, by omega⟩
  have hr : r < R := by omega
  have c0 := hR.cell (i := r * 2) (by omega)
  have c1 := hR.cell (i := r * 2 + 1) (by omega)
  have hwr := hwb r hr
  rw [wrF_0] at c0
  rw [wrF_1] at c1
  have hzC := lt_of_cell hbox
  have hzB := hR.lt
  have HU := hidI hU
  have HT := hidI hT
  have HK : Hid (knB wb u pl true (r : Int) block at_ = if (wb r).1 < 0 then false else if (wb r).1 = block then decide ((wb r).2 < at_) else rulesN u (wb r).1.toNat (pl block + 2) block) := hidI (by unfold knB; simp)
  clear hR hU hT hv h1 h2 hwb
  obtain ⟨⟨x, y⟩, hxy⟩ : ∃ p, p = wb r := ⟨_, rfl⟩
  rw [← hxy] at c0 c1 hwr HK
  clear hxy
  simp only at c0 c1 hwr HK
  by_cases hx : x < 0
  ·rw [if_pos hx] at HK
   go_enter Tryd.func108, Tryd.ntmps108
   go_wp2_with fail
   go_region
   all_goals go_wp2
   all_goals go_ret
   all_goals exact ⟨by rw [HK.out]; rfl, by repeat (first | (with_reducible first | exact bR _ _ | exact bH ‹_› | refine bD ?_ | refine bN ?_ _ | refine bS ?_ ?_ _ | refine bA ?_ ?_ _ | refine bT hb3 ?_ ?_ | refine bT hb5 ?_ ?_ | refine bT hb4 ?_ ?_) | omega | (simp; omega) | simp)⟩
  ·rw [if_neg hx] at HK
   obtain ⟨x, rfl⟩ : ∃ k : Nat, x = k := ⟨x.toNat, by omega⟩
   by_cases he : (x : Int) = block
   ·rw [if_pos he] at HK
    obtain rfl : x = block := by omega
    go_enter Tryd.func108, Tryd.ntmps108
    go_wp2_with fail
    go_region
    all_goals go_wp2
    all_goals go_ret
    all_goals exact ⟨by rw [HK.out]; rfl, by repeat (first | (with_reducible first | exact bR _ _ | exact bH ‹_› | refine bD ?_ | refine bN ?_ _ | refine bS ?_ ?_ _ | refine bA ?_ ?_ _ | refine bT hb3 ?_ ?_ | refine bT hb5 ?_ ?_ | refine bT hb4 ?_ ?_) | omega | (simp; omega) | simp)⟩
   ·rw [if_neg he] at HK
    have hxn : x < n := by omega
    have hrl := fun w' (h : Below w.heap.size w w') => rules_any (w := w') (rowI_below HU.out h) HT.out x block hxn hb
    rw [Int.toNat_natCast] at HK
    rw [← HK.out] at hrl
    have HRL := hidI hrl
    clear hrl
    go_enter Tryd.func108, Tryd.ntmps108
    go_wp2_with fail
    go_region
    go_wp2_with fail
    go_region_with (go_at_call 134; refine (HRL.out _ (by repeat (first | (with_reducible first | exact bR _ _ | exact bH ‹_› | refine bD ?_ | refine bN ?_ _ | refine bS ?_ ?_ _ | refine bA ?_ ?_ _ | refine bT hb3 ?_ ?_ | refine bT hb5 ?_ ?_ | refine bT hb4 ?_ ?_) | omega | (simp; omega) | simp))).mono ?_; rintro e w2 ⟨rfl, hb2⟩; have HB2 : Hid (Below w.heap.size w w2) := Below.trans (by repeat (first | (with_reducible first | exact bR _ _ | exact bH ‹_› | refine bD ?_ | refine bN ?_ _ | refine bS ?_ ?_ _ | refine bA ?_ ?_ _ | refine bT hb3 ?_ ?_ | refine bT hb5 ?_ ?_ | refine bT hb4 ?_ ?_) | omega | (simp; omega) | simp)) (hb2.mono (by first | (simp; done) | (simp; omega))); clear hb2)
    all_goals go_wp2
    all_goals go_ret
    all_goals exact ⟨rfl, by repeat (first | (with_reducible first | exact bR _ _ | exact bH ‹_› | refine bD ?_ | refine bN ?_ _ | refine bS ?_ ?_ _ | refine bA ?_ ?_ _ | refine bT hb3 ?_ ?_ | refine bT hb5 ?_ ?_ | refine bT hb4 ?_ ?_) | omega | (simp; omega) | simp)⟩
end Go.Proofs.YtdjamkinijhjoaaDoor
