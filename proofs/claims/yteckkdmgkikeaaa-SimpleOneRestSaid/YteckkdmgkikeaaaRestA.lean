/-
  SimpleOneRest holds: for every instruction that reads as data, the law returns true and the instruction reads as it did. No condition.
-/
import Derived.Test.YteckkdmgkikeaaaSoQ
import Derived.Test.YteckkdmgkikeaaaSaysA
namespace Go.Proofs.Yteckkdmgkikeaaa
open Go.RowKit Go.ChangeShapes Go.WideShapes Go.ChangeAt

set_option maxRecDepth 100000 in
theorem rest_lifted (os : Os) (started : os.Started) (H : Type) (enc : TypeId × Value → H) :
    ReturnsInHanded {} Try.checked os 4 .any (Rows.simpleOneRestSpec.pre6 enc Try.prog Try.f4 Rows.simpleOneRestRow.domain false) (Rows.simpleOneRestSpec.post enc Try.prog Try.f4 false true false false) := by
  refine returnsInHanded_of_change_sized (C := Try.checked) own started (by kernel_rfl) Try.func4
    (ChangeSpec.witness6 (enc := enc) (C := Try.checked) false ⟨#[], #[.agg #[.int .i64 0, .int .i64 0, .bool false, .int .i64 0, .bool false, .int .i64 0, .int .i64 0, .slice none 0 0]], []⟩ 8 (by kernel_rfl) (by kernel_rfl) (by kernel_rfl) (by kernel_rfl)) ?_
  intro W base args ds gs before hval0 hW _ hsz0 _
  have hsz : (DataW.weightsEach Try.prog (Try.f4.params.toList ++ Rows.simpleOneRestSpec.plain.varTypes Try.prog) (ds ++ gs)).all (· ≤ reachBytes) = true := hsz0
  have hval : ∀ (j : Nat) t v, Try.f4.params[j]? = some t → args[j]? = some v → Value.okWide Try.prog W .any base t v := hval0
  have hW' := hW
  obtain ⟨p, q, hA0, hV, rfl, hfz, hnd⟩ := hW
  have hA : DataW.TrodAll enc Try.prog W 0 (fun _ => true) true Try.f4.params.toList args.toList ds p := hA0
  rw [Try.params4] at hA hval hsz
  obtain ⟨v0, d0, rfl, rfl, h0⟩ := trodAll_one hA
  obtain ⟨rfl, rfl⟩ := trodVars_none hV
  clear hA0 hval0 hsz0
  obtain ⟨fuel, hf⟩ := h0
  have hw : ∀ k ∈ d0.weights Try.prog 26, k ≤ reachBytes := by
    intro k hk
    have := List.all_eq_true.1 hsz k (by
      show k ∈ DataW.weightsEach Try.prog (26 :: _) (d0 :: _)
      unfold DataW.weightsEach
      exact List.mem_append_left _ hk)
    simpa using this
  obtain ⟨i, pp, c, hcs, w0, _, w2, w3, _, hp, hc, hr, hs⟩ := rd_ins hf hw
  obtain ⟨cs, rfl, hsize⟩ := okWide_struct Try.underlying26 (hval 0 26 v0 rfl rfl)
  have hcs2 : cs = #[.int .i64 i.op, .int .i64 i.dst, .bool i.ar, .int .i64 i.an, .bool i.br, .int .i64 i.bn, .int .i64 i.fn, .slice pp i.args.length c] := by
    apply Array.toList_inj.1
    exact hcs
  subst hcs2
  have hcl : i.args.length * 16 ≤ 140737488355328 := by unfold reachBytes at hr; omega
  have hwalk : Calls Try.prog 4 #[.agg #[.int .i64 i.op, .int .i64 i.dst, .bool i.ar, .int .i64 i.an, .bool i.br, .int .i64 i.bn, .int .i64 i.fn, .slice pp i.args.length c]] W fun e w' => e = .returned (.bool true) ∧ Below W.heap.size W w' := by
    by_cases hop : i.op < 1 ∨ 22 < i.op
    · exact rest_bad _ _ _ _ _ _ _ _ _ _ _ hop
    · exact rest_good _ _ _ _ _ _ _ _ _ _ _ _ (by omega) (by omega) w2 w3 hcl hp hs.vals
  refine hwalk.mono fun e W' ⟨he, hb⟩ => ?_
  exact ⟨_, he, law_post laidOut rfl Try.underlying4 (by rw [Try.params4]; exact readable_ins) rfl hW' rfl hb⟩

theorem SimpleOneRest_holds : Rows.SimpleOneRestSaid :=
  OpenClaim.holds_of_wide 4 Try.f4 rfl rfl rfl rfl rfl rfl rfl ⟨rfl, rfl, rfl, rfl, rfl⟩ rfl rfl rfl rfl rfl (by kernel_rfl) Try.func4 (by kernel_rfl)
    (of_decide_eq_true (by kernel_rfl)) (by unfold Func.isWrapper; first | (rw [if_pos (by decide +kernel)]; kernel_rfl) | (rw [if_neg (by decide +kernel)]; exact ⟨rfl, rfl⟩))
    (fun os started H enc _ => rest_lifted os started H enc)
#print axioms SimpleOneRest_holds
end Go.Proofs.Yteckkdmgkikeaaa
