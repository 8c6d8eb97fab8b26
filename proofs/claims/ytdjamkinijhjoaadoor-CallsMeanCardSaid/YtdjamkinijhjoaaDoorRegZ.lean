/-
  Regions that draw their order, operation by operation, under what S says of every world but the last.
-/
import Derived.Test.YtdjamkinijhjoaaDoorBCalG
namespace Go.Proofs.YtdjamkinijhjoaaDoor
open Go.RowKit Go.Shelf

section
variable {P : Program} {md : Region.Mode} {ops : Array Oper} {Q : Exit → Act → World → Prop} {S : World → Prop} {z : Nat}
theorem takeZ (i d : Nat) (v : Value) {oi : Oper} {fuel : Nat} {listed : Array Bool} {a : Act} {w : World} (hi : ops[i]? = some oi) (hd : oi.dst = some d) (hw : waitsB md ops z i = true)
    (hs : Region.noSelect ops = true) (hf : Region.free md ops listed i = true) (hr : (Region.ready md ops listed).contains i = true)
    (hQ : ∀ c a w, Q (.panic c) (a.put (some d) v) w → Q (.panic c) a w) (hy : YieldsIf P ops S oi v a) (hS : S w)
    (h : wpAnyZ P md ops Q S z fuel (listed.setIfInBounds i true) (a.put (some d) v) w) : wpAnyZ P md ops Q S z (fuel + 1) listed a w :=
  wpAnyZ_take hi hw hs hf hr (by rw [hd]; exact hQ) hy hS (by rw [hd]; exact h)
/-- a call that is guarded, and wanted -/
theorem wpAnyZ_callG {i : Nat} {o : Oper} {fuel : Nat} {listed : Array Bool} {a : Act} {w : World} {f : FuncId} {args : Array Value} {R : Ending → World → Prop} (hr : Region.ready md ops listed = [i]) (ho : ops[i]? = some o) (hg : Region.wanted o (yielded ops a.tmps) = true)
    (h : (execOp a.eval o).run P w = .ok (.enter f args) w) (hc : Calls P f args w R) (hk : ∀ e w', R e w' → ∃ v, e = .returned v ∧ (i ≠ z → S w') ∧ wpAnyZ P md ops Q S z fuel (listed.setIfInBounds i true) (a.put o.dst v) w') : wpAnyZ P md ops Q S z (fuel + 1) listed a w :=
  wpAnyZ_all hr (by simp) fun j hj => by
    obtain rfl : j = i := by simpa using hj
    unfold wpOp
    rw [ho]
    simp only [hg, if_true]
    left
    unfold Oper.wp
    rw [h]
    refine hc.mono fun e w' he => ?_
    obtain ⟨v, rfl, h1, h2⟩ := hk e w' he
    exact ⟨h1, h2⟩
theorem stepZ_val {i : Nat} {o : Oper} {fuel : Nat} {listed : Array Bool} {a : Act} {w : World} (v : Value) (w' : World) (ho : ops[i]? = some o) (hg : o.guard = none) (h : (execOp a.eval o).run P w = .ok (.value v) w') (hS : S w')
    (hk : wpAnyZ P md ops Q S z fuel (listed.setIfInBounds i true) (a.put o.dst v) w') : wpOp P ops Q i (fun a' w' => (i ≠ z → S w') ∧ wpAnyZ P md ops Q S z fuel (listed.setIfInBounds i true) a' w') a w :=
  wpOp_one ho hg (wp_of_run h ⟨fun _ => hS, hk⟩)
theorem stepZ_to {i : Nat} {o : Oper} {fuel : Nat} {listed : Array Bool} {a : Act} {w : World} (d : Nat) (v : Value) (w' : World) (ho : ops[i]? = some o) (hd : o.dst = some d) (hg : o.guard = none) (h : (execOp a.eval o).run P w = .ok (.value v) w') (hS : S w')
    (hk : wpAnyZ P md ops Q S z fuel (listed.setIfInBounds i true) (a.put (some d) v) w') : wpOp P ops Q i (fun a' w' => (i ≠ z → S w') ∧ wpAnyZ P md ops Q S z fuel (listed.setIfInBounds i true) a' w') a w :=
  stepZ_val v w' ho hg h hS (by rw [hd]; exact hk)
theorem stepZ_skip {i : Nat} {o : Oper} {fuel : Nat} {listed : Array Bool} {a : Act} {w : World} (w' : World) (ho : ops[i]? = some o) (hg : o.guard = none) (h : (execOp a.eval o).run P w = .ok .skip w') (hS : i ≠ z → S w')
    (hk : wpAnyZ P md ops Q S z fuel (listed.setIfInBounds i true) (a.put o.dst undef) w') : wpOp P ops Q i (fun a' w' => (i ≠ z → S w') ∧ wpAnyZ P md ops Q S z fuel (listed.setIfInBounds i true) a' w') a w :=
  wpOp_one ho hg (wp_of_skip h ⟨hS, hk⟩)
theorem stepZ_call {i : Nat} {o : Oper} {fuel : Nat} {listed : Array Bool} {a : Act} {w : World} {f : FuncId} {args : Array Value} {R : Ending → World → Prop} (ho : ops[i]? = some o) (hg : o.guard = none)
    (h : (execOp a.eval o).run P w = .ok (.enter f args) w) (hc : Calls P f args w R) (hk : ∀ e w', R e w' → ∃ v, e = .returned v ∧ S w' ∧ wpAnyZ P md ops Q S z fuel (listed.setIfInBounds i true) (a.put o.dst v) w') : wpOp P ops Q i (fun a' w' => (i ≠ z → S w') ∧ wpAnyZ P md ops Q S z fuel (listed.setIfInBounds i true) a' w') a w := by
  refine wpOp_one ho hg ?_
  unfold Oper.wp
  rw [h]
  refine hc.mono fun e w' he => ?_
  obtain ⟨v, rfl, h1, h2⟩ := hk e w' he
  exact ⟨fun _ => h1, h2⟩
theorem stepZ_callTo {i : Nat} {o : Oper} {fuel : Nat} {listed : Array Bool} {a : Act} {w : World} {f : FuncId} {args : Array Value} {R : Ending → World → Prop} (d : Nat) (ho : ops[i]? = some o) (hd : o.dst = some d) (hg : o.guard = none)
    (h : (execOp a.eval o).run P w = .ok (.enter f args) w) (hc : Calls P f args w R) (hk : ∀ e w', R e w' → ∃ v, e = .returned v ∧ S w' ∧ wpAnyZ P md ops Q S z fuel (listed.setIfInBounds i true) (a.put (some d) v) w') : wpOp P ops Q i (fun a' w' => (i ≠ z → S w') ∧ wpAnyZ P md ops Q S z fuel (listed.setIfInBounds i true) a' w') a w :=
  stepZ_call ho hg h hc (by rw [hd]; exact hk)
theorem stepZ_skipNo {i : Nat} {o : Oper} {fuel : Nat} {listed : Array Bool} {a : Act} {w : World} (w' : World) (ho : ops[i]? = some o) (hd : o.dst = none) (hg : o.guard = none) (h : (execOp a.eval o).run P w = .ok .skip w') (hS : i ≠ z → S w')
    (hk : wpAnyZ P md ops Q S z fuel (listed.setIfInBounds i true) a w') : wpOp P ops Q i (fun a' w' => (i ≠ z → S w') ∧ wpAnyZ P md ops Q S z fuel (listed.setIfInBounds i true) a' w') a w :=
  stepZ_skip w' ho hg h hS (by rw [hd]; exact hk)
theorem stepZ_1 {i : Nat} {fuel : Nat} {listed : Array Bool} {a : Act} {w : World} (hr : Region.ready md ops listed = [i])
    (h1 : wpOp P ops Q i (fun a' w' => (i ≠ z → S w') ∧ wpAnyZ P md ops Q S z fuel (listed.setIfInBounds i true) a' w') a w) : wpAnyZ P md ops Q S z (fuel + 1) listed a w :=
  wpAnyZ_all hr (by simp) fun m hm => by
    obtain rfl : m = i := by simpa using hm
    exact h1
theorem stepZ_2 {i j : Nat} {fuel : Nat} {listed : Array Bool} {a : Act} {w : World} (hr : Region.ready md ops listed = [i, j])
    (h1 : wpOp P ops Q i (fun a' w' => (i ≠ z → S w') ∧ wpAnyZ P md ops Q S z fuel (listed.setIfInBounds i true) a' w') a w)
    (h2 : wpOp P ops Q j (fun a' w' => (j ≠ z → S w') ∧ wpAnyZ P md ops Q S z fuel (listed.setIfInBounds j true) a' w') a w) : wpAnyZ P md ops Q S z (fuel + 1) listed a w :=
  wpAnyZ_all hr (by simp) fun m hm => by
    rcases List.mem_cons.1 hm with rfl | hm
    · exact h1
    obtain rfl : m = j := by simpa using hm
    exact h2
theorem stepZ_3 {i j k : Nat} {fuel : Nat} {listed : Array Bool} {a : Act} {w : World} (hr : Region.ready md ops listed = [i, j, k])
    (h1 : wpOp P ops Q i (fun a' w' => (i ≠ z → S w') ∧ wpAnyZ P md ops Q S z fuel (listed.setIfInBounds i true) a' w') a w)
    (h2 : wpOp P ops Q j (fun a' w' => (j ≠ z → S w') ∧ wpAnyZ P md ops Q S z fuel (listed.setIfInBounds j true) a' w') a w)
    (h3 : wpOp P ops Q k (fun a' w' => (k ≠ z → S w') ∧ wpAnyZ P md ops Q S z fuel (listed.setIfInBounds k true) a' w') a w) : wpAnyZ P md ops Q S z (fuel + 1) listed a w :=
  wpAnyZ_all hr (by simp) fun m hm => by
    rcases List.mem_cons.1 hm with rfl | hm
    · exact h1
    rcases List.mem_cons.1 hm with rfl | hm
    · exact h2
    obtain rfl : m = k := by simpa using hm
    exact h3
end

end Go.Proofs.YtdjamkinijhjoaaDoor
