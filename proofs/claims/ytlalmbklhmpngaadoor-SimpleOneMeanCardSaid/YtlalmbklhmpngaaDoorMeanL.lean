/-
  SimpleOneMean holds: for every input that reads as data the law returns true and the arguments read as they did. Condition: the listed variable code.ways holds what the program's text lays (tied by the card).
-/
import Derived.Test.YtlalmbklhmpngaaDoorMeanD
import Derived.Test.YtlalmbklhmpngaaDoorLaidW
import Derived.Test.YtlalmbklhmpngaaDoorCards
import Derived.Test.YtlalmbklhmpngaaDoorTie
import Derived.SevenTiedAt
namespace Go.Proofs.YtlalmbklhmpngaaDoor
open Go Go.RowKit Go.ChangeShapes Go.WideShapes Go.ChangeAt

theorem simpleOneMean_read : ∀ t ∈ [26, 3, 3], Tryd.prog.readableRec t = true ∧ t < Tryd.prog.types.size := by
  have h : ∀ t ∈ [26, 3, 3], (Tryd.prog.readableRec t && decide (t < Tryd.prog.types.size)) = true := List.all_eq_true.1 (by kernel_rfl)
  intro t ht
  have := h t ht
  simp only [Bool.and_eq_true, decide_eq_true_eq] at this
  exact this

set_option maxRecDepth 100000 in
set_option maxHeartbeats 1000000 in
theorem simpleOneMean_lifted (os : Os) (started : os.Started) (H : Type) (enc : TypeId × Value → H) :
    ReturnsInHanded {} Tryd.checked os 3 .any (fun w args => (Rows.simpleOneMeanSpec.pre enc Tryd.prog Tryd.f3 [] false w args ∧ laidMetH Tryd.prog laidWays w) ∧ sizedMet enc Tryd.prog Tryd.f3 (OpenSpec.ofChange Rows.simpleOneMeanSpec) false w args)
      (Rows.simpleOneMeanSpec.post enc Tryd.prog Tryd.f3 false true false false) := by
  refine returnsInHanded_of_change_and (C := Tryd.checked) (X := fun w _ => laidMetH Tryd.prog laidWays w) (fun _ _ _ hh h => h.of_heap hh) own started (by kernel_rfl) Tryd.func3
    (ChangeSpec.witness_shaped (enc := enc) (C := Tryd.checked) (os := os) (X := fun w _ => laidMetH Tryd.prog laidWays w) false (World.doorLaid Tryd.prog 400 os) #[.agg #[.int .i64 0, .int .i64 0, .bool false, .int .i64 0, .bool false, .int .i64 0, .int .i64 0, .slice none 0 0], .int .i64 0, .int .i64 0] 8 rfl (World.shaped_of_RefB (by kernel_rfl) (by kernel_rfl)) (by kernel_rfl) (by kernel_rfl) (by kernel_rfl) (door_ways os _)) ?_
  intro W base args ds gs before hval0 hW _ hsz0 hL _
  have hval : ∀ (j : Nat) t v, Tryd.f3.params[j]? = some t → args[j]? = some v → Value.okWide Tryd.prog W .any base t v := hval0
  have hsz : (DataW.weightsEach Tryd.prog (Tryd.f3.params.toList ++ Rows.simpleOneMeanSpec.plain.varTypes Tryd.prog) (ds ++ gs)).all (· ≤ reachBytes) = true := hsz0
  have hways : Ways W := ways_of_laid hL
  have hW' := hW
  obtain ⟨p, q, hA0, hV, rfl, hfz, hnd⟩ := hW
  have hA : DataW.TrodAll enc Tryd.prog W 0 (fun _ => true) true Tryd.f3.params.toList args.toList ds p := hA0
  rw [Tryd.params3] at hA hval hsz
  obtain ⟨v0, v1, v2, d0, d1, d2, p0, p1, p2, rfl, rfl, rfl, h0, h1, h2⟩ := trodAll_three hA
  obtain ⟨rfl, rfl⟩ := trodVars_none hV
  clear hA0 hval0 hsz0
  have hw0 : ∀ k ∈ d0.weights Tryd.prog 26, k ≤ reachBytes := by
    intro k hk
    have := List.all_eq_true.1 hsz k (by
      show k ∈ DataW.weightsEach Tryd.prog (26 :: _) (d0 :: _)
      simp only [DataW.weightsEach]
      exact List.mem_append_left _ hk)
    simpa using this
  obtain ⟨fuel0, hf0⟩ := h0
  obtain ⟨u0, sv0, hcs0, ia0, ib0, ic0, id0, ie0, hsl0⟩ := rd_ins hf0 hw0
  obtain ⟨cs0, rfl, hsize0⟩ := okWide_struct Tryd.underlying26 (hval 0 26 v0 rfl rfl)
  have hcs20 : cs0 = #[.int .i64 u0.op, .int .i64 u0.dst, .bool u0.ar, .int .i64 u0.an, .bool u0.br, .int .i64 u0.bn, .int .i64 u0.fn, sv0] := by
    apply Array.toList_inj.1
    exact hcs0
  subst hcs20
  obtain ⟨n1, rfl, rfl, rfl, wf1⟩ := open_int Tryd.underlying3 (hval 1 3 v1 rfl rfl) h1
  obtain ⟨n2, rfl, rfl, rfl, wf2⟩ := open_int Tryd.underlying3 (hval 2 3 v2 rfl rfl) h2
  refine (mean_all u0 sv0 n1 n2 W ia0 ic0 id0 ie0 hsl0 hways (I64.of_wf wf1) (I64.of_wf wf2)).mono fun e W' ⟨he, hb⟩ => ?_
  exact ⟨_, he, law_post laidOut rfl Tryd.underlying4 (by rw [Tryd.params3]; exact simpleOneMean_read) rfl hW' rfl hb⟩

theorem SimpleOneMean_row : Rows.SimpleOneMeanSaid :=
  OpenClaim.holds_of_wide 3 Tryd.f3 rfl rfl rfl rfl rfl rfl rfl ⟨rfl, rfl, rfl, rfl, rfl⟩ rfl rfl rfl rfl rfl (by kernel_rfl) Tryd.func3 (by kernel_rfl)
    (of_decide_eq_true (by kernel_rfl)) (by unfold Func.isWrapper; first | (rw [if_pos (by decide +kernel)]; kernel_rfl) | (rw [if_neg (by decide +kernel)]; exact ⟨rfl, rfl⟩))
    (fun os started H enc _ => simpleOneMean_lifted os started H enc)

theorem SimpleOneMean_holds : Rows.SimpleOneMeanCardSaid :=
  Claim7.holds_tied_plain_at .later [] [.data] true Rows.simpleOneMeanCard.stood.harness false
    SimpleOneMean_row (fun _ h => by cases h) (by kernel_rfl) (fun _ h => by cases h) simpleOneMean_row_tie rfl ⟨rfl, rfl⟩ (by kernel_rfl) rfl
    (fun f fn hf hfn => by
      obtain rfl : f = 3 := Option.some.inj ((show Tryd.prog.funcNamed Rows.simpleOneMeanRow.func = some 3 by kernel_rfl).symm.trans hf) |>.symm
      obtain rfl : fn = Tryd.f3 := (Option.some.inj (Tryd.func3.symm.trans hfn)).symm
      exact ⟨by kernel_rfl, fun j t ht => by
        rw [Tryd.params3] at ht
        have hm : t ∈ [26, 3, 3] := by simpa using Array.mem_of_getElem? ht
        have hall : ([26, 3, 3].all fun u => !Tryd.prog.wantsStandIn u) = true := by kernel_rfl
        exact (show Tryd.prog.wantsStandIn t = false by simpa using List.all_eq_true.1 hall t hm)⟩)
    (by kernel_rfl)
#print axioms SimpleOneMean_holds
end Go.Proofs.YtlalmbklhmpngaaDoor
