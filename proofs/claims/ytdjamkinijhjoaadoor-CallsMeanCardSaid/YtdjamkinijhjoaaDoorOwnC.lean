/-
  append onto memory of the call's own, in a region that draws its order.
-/
import Derived.Test.YtdjamkinijhjoaaDoorBOwn
import Derived.Test.YtdjamkinijhjoaaDoorRegZ
namespace Go.Proofs.YtdjamkinijhjoaaDoor
open Go.RowKit Go.Shelf

theorem exec_append {P : Program} {o : Oper} {a : Act} {w w' : World} {s x : Operand} {t : TypeId} {u v v' : Value} (ho : o.op = .call { callee := .builtin .append, args := #[s, x], argTypes := #[t, t] }) (hs : a.eval s = v) (hx : a.eval x = u) (h : (Builtin.append_ #[t, t] o.type #[v, u]).run P w = .ok v' w') :
    (execOp a.eval o).run P w = .ok (.value v') w' := by
  unfold execOp
  simp only [ho, resolve, invoke, builtin, Sem.run_bind, Sem.run_pure, Result.andThen_ok, List.map_toArray, List.map_cons, List.map_nil, hs, hx, h]
section
variable {P : Program} {md : Region.Mode} {ops : Array Oper} {Q : Exit → Act → World → Prop} {S : World → Prop} {z : Nat} {α : Type} {R : ElemO α}
theorem stepZ_append {i : Nat} {o : Oper} {fuel : Nat} {listed : Array Bool} {a : Act} {w : World} (d : Nat) (s x : Operand) (t : TypeId) (ho : ops[i]? = some o) (hop : o.op = .call { callee := .builtin .append, args := #[s, x], argTypes := #[t, t] }) (hd : o.dst = some d) (hg : o.guard = none)
    (e : TypeId) (ti : TypeInfo) (zv : Value) (size bytes : Nat) (ht : P.underlying t = some (.slice e)) (hi : P.info? e = some ti) (hz : ti.zero = some zv)
    (hsize : ti.size = size) (hby : ti.bytes = bytes) (hzs : zv.cells.size = size) (hsz : 0 < size) (hR : LocO R)
    {v : Value} {xs : List α} {U T : Blks} (hs : a.eval s = v) (hO : SlO e size R w v xs U)
    (ad : Addr) (cc : Nat) (c : List Value) (y : α) (hx : a.eval x = .slice (some ad) 1 cc) (hl : c.length = size) (hnews : ∀ j u, c[j]? = some u → w.cell? (ad.add j) = some u) (h1 : ∀ u ∈ c, u.oneCell' = true) (hy : R w c y T) (hT : Apart U T) (hTi : InB w T)
    (h63 : xs.length + 1 ≤ maxLen) (hbytes : (xs.length + 1) * bytes ≤ 140737488355328)
    (hk : ∀ v' w', Snoc e size R w (xs ++ [y]) U T v' w' → S w' ∧ wpAnyZ P md ops Q S z fuel (listed.setIfInBounds i true) (a.put (some d) v') w') :
    wpOp P ops Q i (fun a' w' => (i ≠ z → S w') ∧ wpAnyZ P md ops Q S z fuel (listed.setIfInBounds i true) a' w') a w := by
  obtain ⟨v', w', hr, h2⟩ := run_append_slo (P := P) w t o.type e ti zv size bytes ht hi hz hsize hby hzs hsz hR hO ad cc c y hl hnews h1 hy hT hTi h63 hbytes
  obtain ⟨h3, h4⟩ := hk v' w' h2
  exact stepZ_to d v' w' ho hd hg (exec_append hop hs hx hr) h3 h4
end
end Go.Proofs.YtdjamkinijhjoaaDoor
