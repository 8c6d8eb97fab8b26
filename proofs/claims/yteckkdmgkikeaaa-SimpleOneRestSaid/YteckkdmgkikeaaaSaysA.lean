/-
  SimpleOneSays holds: for every instruction that reads as data, whatever its kind, its values and its list of arguments, the law returns true and the instruction reads as it did. No condition.
-/
import Derived.Test.YteckkdmgkikeaaaSoN
import Derived.Test.YteckkdmgkikeaaaSoO
import Derived.Test.YteckkdmgkikeaaaDatB
import Derived.ProofKit
namespace Go.Proofs.Yteckkdmgkikeaaa
open Go.RowKit Go.ChangeShapes Go.WideShapes Go.ChangeAt

theorem own : ownKnob Try.prog.godebug = none := by kernel_rfl
theorem laidOut : laidOutB Try.prog = true := by kernel_rfl

theorem SliceAt.vals {w : World} {p : Option Addr} {xs : List (Bool × Int)} (h : SliceAt w 2 ValR p xs) : ValsAt w p xs.length (fun i => xs.getD i (false, 0)) := by
  rcases h with rfl | ⟨b, o, rfl, h⟩
  · exact .inl rfl
  · refine .inr ⟨b, o, rfl, fun i hi => ?_⟩
    obtain ⟨cs, _, hc, ⟨rfl, _⟩⟩ := h i hi
    have h0 := hc 0 (by omega)
    have h1 := hc 1 (by omega)
    have hg : xs.getD i (false, 0) = xs[i] := by simp [List.getD, hi]
    show w.cell? _ = some (.bool (xs.getD i (false, 0)).1) ∧ w.cell? _ = some (.int .i64 (xs.getD i (false, 0)).2)
    rw [hg]
    exact ⟨h0, h1⟩

theorem readable_ins : ∀ t ∈ [26], Try.prog.readableRec t = true ∧ t < Try.prog.types.size := by
  intro t ht
  obtain rfl : t = 26 := by simpa using ht
  exact ⟨by kernel_rfl, of_decide_eq_true (by kernel_rfl)⟩

set_option maxRecDepth 100000 in
theorem says_lifted (os : Os) (started : os.Started) (H : Type) (enc : TypeId × Value → H) :
    ReturnsInHanded {} Try.checked os 3 .any (Rows.simpleOneSaysSpec.pre6 enc Try.prog Try.f3 Rows.simpleOneSaysRow.domain false) (Rows.simpleOneSaysSpec.post enc Try.prog Try.f3 false true false false) := by
  refine returnsInHanded_of_change_sized (C := Try.checked) own started (by kernel_rfl) Try.func3
    (ChangeSpec.witness6 (enc := enc) (C := Try.checked) false ⟨#[], #[.agg #[.int .i64 0, .int .i64 0, .bool false, .int .i64 0, .bool false, .int .i64 0, .int .i64 0, .slice none 0 0]], []⟩ 8 (by kernel_rfl) (by kernel_rfl) (by kernel_rfl) (by kernel_rfl)) ?_
  intro W base args ds gs before hval0 hW _ hsz0 _
  have hsz : (DataW.weightsEach Try.prog (Try.f3.params.toList ++ Rows.simpleOneSaysSpec.plain.varTypes Try.prog) (ds ++ gs)).all (· ≤ reachBytes) = true := hsz0
  have hval : ∀ (j : Nat) t v, Try.f3.params[j]? = some t → args[j]? = some v → Value.okWide Try.prog W .any base t v := hval0
  have hW' := hW
  obtain ⟨p, q, hA0, hV, rfl, hfz, hnd⟩ := hW
  have hA : DataW.TrodAll enc Try.prog W 0 (fun _ => true) true Try.f3.params.toList args.toList ds p := hA0
  rw [Try.params3] at hA hval hsz
  obtain ⟨v0, d0, rfl, rfl, h0⟩ := trodAll_one hA
  obtain ⟨rfl, rfl⟩ := trodVars_none hV
  clear hA0 hval0 hsz0
  obtain ⟨fuel, hf⟩ := h0
  have hw : ∀ k ∈ d0.weights Try.prog 26, k ≤ reachBytes := by
    intro k hk
    have := List.all_eq_true.1 hsz k (by
      show k ∈ DataW.weightsEach Try.prog (26 :: _) (d0 :: _)
      unfold DataW.weightsEach
      exact List.mem_append_left _ hk)
    simpa using this
  obtain ⟨i, pp, c, hcs, w0, _, w2, _, _, hp, hc, hr, hs⟩ := rd_ins hf hw
  obtain ⟨cs, rfl, hsize⟩ := okWide_struct Try.underlying26 (hval 0 26 v0 rfl rfl)
  have hcs2 : cs = #[.int .i64 i.op, .int .i64 i.dst, .bool i.ar, .int .i64 i.an, .bool i.br, .int .i64 i.bn, .int .i64 i.fn, .slice pp i.args.length c] := by
    apply Array.toList_inj.1
    exact hcs
  subst hcs2
  have hcl : i.args.length * 16 ≤ 140737488355328 := by unfold reachBytes at hr; omega
  have hwalk : Calls Try.prog 3 #[.agg #[.int .i64 i.op, .int .i64 i.dst, .bool i.ar, .int .i64 i.an, .bool i.br, .int .i64 i.bn, .int .i64 i.fn, .slice pp i.args.length c]] W fun e w' => e = .returned (.bool true) ∧ Below W.heap.size W w' := by
    by_cases hop : i.op < 1 ∨ 22 < i.op
    · exact says_bad _ _ _ _ _ _ _ _ _ _ _ hop
    · exact says_good _ _ _ _ _ _ _ _ _ _ _ _ (by omega) (by omega) w2 hcl hp hs.vals
  refine hwalk.mono fun e W' ⟨he, hb⟩ => ?_
  exact ⟨_, he, law_post laidOut rfl Try.underlying4 (by rw [Try.params3]; exact readable_ins) rfl hW' rfl hb⟩

theorem SimpleOneSays_holds : Rows.SimpleOneSaysSaid :=
  OpenClaim.holds_of_wide 3 Try.f3 rfl rfl rfl rfl rfl rfl rfl ⟨rfl, rfl, rfl, rfl, rfl⟩ rfl rfl rfl rfl rfl (by kernel_rfl) Try.func3 (by kernel_rfl)
    (of_decide_eq_true (by kernel_rfl)) (by unfold Func.isWrapper; first | (rw [if_pos (by decide +kernel)]; kernel_rfl) | (rw [if_neg (by decide +kernel)]; exact ⟨rfl, rfl⟩))
    (fun os started H enc _ => says_lifted os started H enc)
#print axioms SimpleOneSays_holds
end Go.Proofs.Yteckkdmgkikeaaa
