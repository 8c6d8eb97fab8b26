/-
  CallsMean holds: for every input that reads as data the law returns true and the arguments read as they did. Condition: the listed variable code.ways holds what the program's text lays (tied by the card).
-/
import Derived.Test.YtdjamkinijhjoaaDoorBMen
import Derived.Test.YtdjamkinijhjoaaDoorLaidW
import Derived.Test.YtdjamkinijhjoaaDoorCards
import Derived.Test.YtdjamkinijhjoaaDoorTie
import Derived.SevenTiedAt
namespace Go.Proofs.YtdjamkinijhjoaaDoor
open Go Go.RowKit Go.ChangeShapes Go.WideShapes Go.ChangeAt

theorem callsMean_read : ∀ t ∈ [25, 46, 3], Tryd.prog.readableRec t = true ∧ t < Tryd.prog.types.size := by
  have h : ∀ t ∈ [25, 46, 3], (Tryd.prog.readableRec t && decide (t < Tryd.prog.types.size)) = true := List.all_eq_true.1 (by kernel_rfl)
  intro t ht
  have := h t ht
  simp only [Bool.and_eq_true, decide_eq_true_eq] at this
  exact this

set_option maxRecDepth 100000 in
set_option maxHeartbeats 1000000 in
theorem callsMean_lifted (os : Os) (started : os.Started) (H : Type) (enc : TypeId × Value → H) :
    ReturnsInHanded {} Tryd.checked os 8 .any (fun w args => (Rows.callsMeanSpec.pre enc Tryd.prog Tryd.f8 [] false w args ∧ laidMetH Tryd.prog laidWays w) ∧ sizedMet enc Tryd.prog Tryd.f8 (OpenSpec.ofChange Rows.callsMeanSpec) false w args)
      (Rows.callsMeanSpec.post enc Tryd.prog Tryd.f8 false true false false) := by
  refine returnsInHanded_of_change_and (C := Tryd.checked) (X := fun w _ => laidMetH Tryd.prog laidWays w) (fun _ _ _ hh h => h.of_heap hh) own started (by kernel_rfl) Tryd.func8
    (ChangeSpec.witness_shaped (enc := enc) (C := Tryd.checked) (os := os) (X := fun w _ => laidMetH Tryd.prog laidWays w) false (World.doorLaid Tryd.prog 400 os) #[.agg #[.slice none 0 0, .slice none 0 0], .slice none 0 0, .int .i64 0] 8 rfl (World.shaped_of_RefB (by kernel_rfl) (by kernel_rfl)) (by kernel_rfl) (by kernel_rfl) (by kernel_rfl) (door_ways os _)) ?_
  intro W base args ds gs before hval0 hW _ hsz0 hL _
  have hval : ∀ (j : Nat) t v, Tryd.f8.params[j]? = some t → args[j]? = some v → Value.okWide Tryd.prog W .any base t v := hval0
  have hsz : (DataW.weightsEach Tryd.prog (Tryd.f8.params.toList ++ Rows.callsMeanSpec.plain.varTypes Tryd.prog) (ds ++ gs)).all (· ≤ reachBytes) = true := hsz0
  have hways : Ways W := ways_of_laid hL
  have hW' := hW
  obtain ⟨p, q, hA0, hV, rfl, hfz, hnd⟩ := hW
  have hA : DataW.TrodAll enc Tryd.prog W 0 (fun _ => true) true Tryd.f8.params.toList args.toList ds p := hA0
  rw [Tryd.params8] at hA hval hsz
  obtain ⟨v0, v1, v2, d0, d1, d2, p0, p1, p2, rfl, rfl, rfl, h0, h1, h2⟩ := trodAll_three hA
  obtain ⟨rfl, rfl⟩ := trodVars_none hV
  clear hA0 hval0 hsz0
  have hw0 : ∀ k ∈ d0.weights Tryd.prog 25, k ≤ reachBytes := by
    intro k hk
    have := List.all_eq_true.1 hsz k (by
      show k ∈ DataW.weightsEach Tryd.prog (25 :: _) (d0 :: _)
      simp only [DataW.weightsEach]
      exact List.mem_append_left _ hk)
    simpa using this
  obtain ⟨fuel0, hf0⟩ := h0
  obtain ⟨u0, a0, b0, hcs0, hg0, hfn0⟩ := rd_uni hf0 hw0
  obtain ⟨cs0, rfl, hsize0⟩ := okWide_struct Tryd.underlying25 (hval 0 25 v0 rfl rfl)
  obtain ⟨gp0, gc0, rfl, hgl0, hG0⟩ := hg0.out
  obtain ⟨fp0, fc0, rfl, hfl0, hF0⟩ := hfn0.out
  have hcs20 : cs0 = #[.slice gp0 u0.globals.length gc0, .slice fp0 u0.funcs.length fc0] := by
    apply Array.toList_inj.1
    exact hcs0
  subst hcs20
  have hw1 : ∀ k ∈ d1.weights Tryd.prog 46, k ≤ reachBytes := by
    intro k hk
    have := List.all_eq_true.1 hsz k (by
      show k ∈ DataW.weightsEach Tryd.prog (25 :: 46 :: _) (d0 :: d1 :: _)
      simp only [DataW.weightsEach]
      exact List.mem_append_right _ (List.mem_append_left _ hk))
    simpa using this
  obtain ⟨fuel1, hf1⟩ := h1
  obtain ⟨lp1, lc1, xs1, hl1, hln1, hlc1, hlw1, hls1⟩ := rd_slice (R := IntR) Tryd.underlying46 cellsInt bytesInt (by omega) (fun _ _ _ _ hh _ => rd_int hh) hf1 hw1
  obtain ⟨la1, ll1, lk1, rfl⟩ := okWide_slice Tryd.underlying46 (hval 1 46 v1 rfl rfl)
  obtain ⟨rfl, rfl, rfl⟩ : lp1 = la1 ∧ xs1.length = ll1 ∧ lc1 = lk1 := by simpa [Value.cells, eq_comm] using hl1
  obtain ⟨n2, rfl, rfl, rfl, wf2⟩ := open_int Tryd.underlying3 (hval 2 3 v2 rfl rfl) h2
  refine (cmean_all u0 gp0 fp0 gc0 fc0 xs1 lp1 lc1 n2 W hg0 hfn0 hways hln1 hlc1 hlw1 hls1 (I64.of_wf wf2)).mono fun e W' ⟨he, hb⟩ => ?_
  exact ⟨_, he, law_post laidOut rfl Tryd.underlying4 (by rw [Tryd.params8]; exact callsMean_read) rfl hW' rfl hb⟩

theorem CallsMean_row : Rows.CallsMeanSaid :=
  OpenClaim.holds_of_wide 8 Tryd.f8 rfl rfl rfl rfl rfl rfl rfl ⟨rfl, rfl, rfl, rfl, rfl⟩ rfl rfl rfl rfl rfl (by kernel_rfl) Tryd.func8 (by kernel_rfl)
    (of_decide_eq_true (by kernel_rfl)) (by unfold Func.isWrapper; first | (rw [if_pos (by decide +kernel)]; kernel_rfl) | (rw [if_neg (by decide +kernel)]; exact ⟨rfl, rfl⟩))
    (fun os started H enc _ => callsMean_lifted os started H enc)

theorem CallsMean_holds : Rows.CallsMeanCardSaid :=
  Claim7.holds_tied_plain_at .later [] [.data] true Rows.callsMeanCard.stood.harness false
    CallsMean_row (fun _ h => by cases h) (by kernel_rfl) (fun _ h => by cases h) callsMean_row_tie rfl ⟨rfl, rfl⟩ (by kernel_rfl) rfl
    (fun f fn hf hfn => by
      obtain rfl : f = 8 := Option.some.inj ((show Tryd.prog.funcNamed Rows.callsMeanRow.func = some 8 by kernel_rfl).symm.trans hf) |>.symm
      obtain rfl : fn = Tryd.f8 := (Option.some.inj (Tryd.func8.symm.trans hfn)).symm
      exact ⟨by kernel_rfl, fun j t ht => by
        rw [Tryd.params8] at ht
        have hm : t ∈ [25, 46, 3] := by simpa using Array.mem_of_getElem? ht
        have hall : ([25, 46, 3].all fun u => !Tryd.prog.wantsStandIn u) = true := by kernel_rfl
        exact (show Tryd.prog.wantsStandIn t = false by simpa using List.all_eq_true.1 hall t hm)⟩)
    (by kernel_rfl)
#print axioms CallsMean_holds
end Go.Proofs.YtdjamkinijhjoaaDoor
