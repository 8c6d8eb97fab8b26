/-
  SpanTrue holds: for every input that reads as data the law returns true and the arguments read as they did. Condition: the listed variables code.ways and span.all hold what the program's text lays (tied by the card).
-/
import Derived.Test.YtdjamkinijhjoaaDoorCards
import Derived.Test.YtdjamkinijhjoaaDoorTie
import Derived.SevenTiedAt
import Derived.Test.YtdjamkinijhjoaaDoorJLaidS
namespace Go.Proofs.YtdjamkinijhjoaaDoor
open Go Go.RowKit Go.ChangeShapes Go.WideShapes Go.ChangeAt

theorem spanTrue_read : ∀ t ∈ [25, 3, 3, 46, 3], Tryd.prog.readableRec t = true ∧ t < Tryd.prog.types.size := by
 have h : ∀ t ∈ [25, 3, 3, 46, 3], (Tryd.prog.readableRec t && decide (t < Tryd.prog.types.size)) = true := List.all_eq_true.1 (by kernel_rfl)
 intro t ht
 have := h t ht
 simp only [Bool.and_eq_true, decide_eq_true_eq] at this
 exact this

set_option maxRecDepth 100000 in
set_option maxHeartbeats 1000000 in
theorem spanTrue_lifted (os : Os) (started : os.Started) (H : Type) (enc : TypeId × Value → H) :
  ReturnsInHanded {} Tryd.checked os 7 .any (fun w args => (Rows.spanTrueSpec.pre enc Tryd.prog Tryd.f7 [] false w args ∧ laidMetH Tryd.prog laidSpan w) ∧ sizedMet enc Tryd.prog Tryd.f7 (OpenSpec.ofChange Rows.spanTrueSpec) false w args)
   (Rows.spanTrueSpec.post enc Tryd.prog Tryd.f7 false true false false) := by
 refine returnsInHanded_of_change_and (C := Tryd.checked) (X := fun w _ => laidMetH Tryd.prog laidSpan w) (fun _ _ _ hh h => h.of_heap hh) own started (by kernel_rfl) Tryd.func7
  (ChangeSpec.witness_shaped (enc := enc) (C := Tryd.checked) (os := os) (X := fun w _ => laidMetH Tryd.prog laidSpan w) false (World.doorLaid Tryd.prog 400 os) #[.agg #[.slice none 0 0, .slice none 0 0], .int .i64 0, .int .i64 0, .slice none 0 0, .int .i64 0] 8 rfl (World.shaped_of_RefB (by kernel_rfl) (by kernel_rfl)) (by kernel_rfl) (by kernel_rfl) (by kernel_rfl) (door_span os _)) ?_
 intro W base args ds gs before hval0 hW _ hsz0 hL _
 have hval : ∀ (j : Nat) t v, Tryd.f7.params[j]? = some t → args[j]? = some v → Value.okWide Tryd.prog W .any base t v := hval0
 have hsz : (DataW.weightsEach Tryd.prog (Tryd.f7.params.toList ++ Rows.spanTrueSpec.plain.varTypes Tryd.prog) (ds ++ gs)).all (· ≤ reachBytes) = true := hsz0
 obtain ⟨hways, hall⟩ := span_of_laid hL
 have hW' := hW
 obtain ⟨p, q, hA0, hV, rfl, hfz, hnd⟩ := hW
 have hA : DataW.TrodAll enc Tryd.prog W 0 (fun _ => true) true Tryd.f7.params.toList args.toList ds p := hA0
 rw [Tryd.params7] at hA hval hsz
 obtain ⟨v0, v1, v2, v3, v4, d0, d1, d2, d3, d4, p0, p1, p2, p3, p4, rfl, rfl, rfl, h0, h1, h2, h3, h4⟩ := trodAll_five hA
 obtain ⟨rfl, rfl⟩ := trodVars_none hV
 clear hA0 hval0 hsz0
 have hw0 : ∀ k ∈ d0.weights Tryd.prog 25, k ≤ reachBytes := by
  intro k hk
  have := List.all_eq_true.1 hsz k (by
   show k ∈ DataW.weightsEach Tryd.prog (25 :: _) (d0 :: _)
   simp only [DataW.weightsEach]
   exact List.mem_append_left _ hk)
  simpa using this
 obtain ⟨fuel0, hf0⟩ := h0
 obtain ⟨u0, a0, b0, hcs0, hg0, hfn0⟩ := rd_uni hf0 hw0
 obtain ⟨cs0, rfl, hsize0⟩ := okWide_struct Tryd.underlying25 (hval 0 25 v0 rfl rfl)
 obtain ⟨gp0, gc0, rfl, hgl0, hG0⟩ := hg0.out
 obtain ⟨fp0, fc0, rfl, hfl0, hF0⟩ := hfn0.out
 have hcs20 : cs0 = #[.slice gp0 u0.globals.length gc0, .slice fp0 u0.funcs.length fc0] := by
  apply Array.toList_inj.1
  exact hcs0
 subst hcs20
 obtain ⟨n1, rfl, rfl, rfl, wf1⟩ := open_int Tryd.underlying3 (hval 1 3 v1 rfl rfl) h1
 obtain ⟨n2, rfl, rfl, rfl, wf2⟩ := open_int Tryd.underlying3 (hval 2 3 v2 rfl rfl) h2
 have hw3 : ∀ k ∈ d3.weights Tryd.prog 46, k ≤ reachBytes := by
  intro k hk
  have := List.all_eq_true.1 hsz k (by
   show k ∈ DataW.weightsEach Tryd.prog (25 :: 3 :: 3 :: 46 :: _) (d0 :: _ :: _ :: d3 :: _)
   simp only [DataW.weightsEach]
   exact List.mem_append_right _ (List.mem_append_right _ (List.mem_append_right _ (List.mem_append_left _ hk))))
  simpa using this
 obtain ⟨fuel3, hf3⟩ := h3
 obtain ⟨lp3, lc3, xs3, hl3, hln3, hlc3, hlw3, hls3⟩ := rd_slice (R := IntR) Tryd.underlying46 cellsInt bytesInt (by omega) (fun _ _ _ _ hh _ => rd_int hh) hf3 hw3
 obtain ⟨la3, ll3, lk3, rfl⟩ := okWide_slice Tryd.underlying46 (hval 3 46 v3 rfl rfl)
 obtain ⟨rfl, rfl, rfl⟩ : lp3 = la3 ∧ xs3.length = ll3 ∧ lc3 = lk3 := by simpa [Value.cells, eq_comm] using hl3
 obtain ⟨n4, rfl, rfl, rfl, wf4⟩ := open_int Tryd.underlying3 (hval 4 3 v4 rfl rfl) h4
 refine (tru_all u0 gp0 fp0 gc0 fc0 n1 n2 xs3 lp3 lc3 n4 W hg0 hfn0 hways hall (I64.of_wf wf1) (I64.of_wf wf2) hln3 hlc3 hlw3 hls3 (I64.of_wf wf4)).mono fun e W' ⟨he, hb⟩ => ?_
 exact ⟨_, he, law_post laidOut rfl Tryd.underlying4 (by rw [Tryd.params7]; exact spanTrue_read) rfl hW' rfl hb⟩

theorem SpanTrue_row : Rows.SpanTrueSaid :=
 OpenClaim.holds_of_wide 7 Tryd.f7 rfl rfl rfl rfl rfl rfl rfl ⟨rfl, rfl, rfl, rfl, rfl⟩ rfl rfl rfl rfl rfl (by kernel_rfl) Tryd.func7 (by kernel_rfl)
  (of_decide_eq_true (by kernel_rfl)) (by unfold Func.isWrapper; first | (rw [if_pos (by decide +kernel)]; kernel_rfl) | (rw [if_neg (by decide +kernel)]; exact ⟨rfl, rfl⟩))
  (fun os started H enc _ => spanTrue_lifted os started H enc)

theorem SpanTrue_holds : Rows.SpanTrueCardSaid :=
 Claim7.holds_tied_plain_at .later [] [.data, .data] true Rows.spanTrueCard.stood.harness false
  SpanTrue_row (fun _ h => by cases h) (by kernel_rfl) (fun _ h => by cases h) spanTrue_row_tie rfl ⟨rfl, rfl⟩ (by kernel_rfl) rfl
  (fun f fn hf hfn => by
   obtain rfl : f = 7 := Option.some.inj ((show Tryd.prog.funcNamed Rows.spanTrueRow.func = some 7 by kernel_rfl).symm.trans hf) |>.symm
   obtain rfl : fn = Tryd.f7 := (Option.some.inj (Tryd.func7.symm.trans hfn)).symm
   exact ⟨by kernel_rfl, fun j t ht => by
    rw [Tryd.params7] at ht
    have hm : t ∈ [25, 3, 3, 46, 3] := by simpa using Array.mem_of_getElem? ht
    have hall : ([25, 3, 3, 46, 3].all fun u => !Tryd.prog.wantsStandIn u) = true := by kernel_rfl
    exact (show Tryd.prog.wantsStandIn t = false by simpa using List.all_eq_true.1 hall t hm)⟩)
  (by kernel_rfl)
#print axioms SpanTrue_holds
end Go.Proofs.YtdjamkinijhjoaaDoor
