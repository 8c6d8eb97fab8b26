/-
  Plain: a run of the unit without what main does not reach goes as the run of the unit itself, step by step.
The law CallsMean, walked out of the contracts.
-/
import Derived.Test.YtdjamkinijhjoaaDoorDonE
import Derived.Test.YtdjamkinijhjoaaDoorRunX
import Derived.Test.YtdjamkinijhjoaaDoorDoS
import Derived.Test.YtdjamkinijhjoaaDoorOutC
import Derived.WalkKit
import Derived.WalkSpells
import Derived.WalkLawsBesides
namespace Go.Proofs.YtdjamkinijhjoaaDoor

section
variable {u : UniL} {m : Nat} (hu : ChkOk u) (hm : mainI u.funcs = some m)
include hu hm
theorem men_fn {a : Nat} (ha : a < u.funcs.length) (hh : tableU u.funcs m a = true) : fnU (doneU (tableU u.funcs m) u) (cnt (tableU u.funcs m) a) = renF (fun x => atD (tableU u.funcs m) u.funcs.length x.toNat) (fnU u a) := by
  unfold fnU
  rw [List.getD, done_get hu hm ha hh, List.getD, List.getElem?_eq_getElem ha]
  rfl
end
theorem ren_blF (at_ : Int → Int) (f : FunL) (b : Nat) : blF (renF at_ f) b = putL (blF f b) ((blF f b).list.map (renI at_)) := by
  unfold blF renF
  simp only [List.getD]
  rw [List.getElem?_map]
  cases f.blocks[b]? <;> rfl
theorem ren_ways (at_ : Int → Int) (f : FunL) : waysL (renF at_ f) = waysL f := by
  unfold waysL
  have h1 : tosL (renF at_ f) = tosL f := by simp [renF, putL, tosL, List.map_map, Function.comp_def]
  rw [h1]
  simp [renF]
theorem ren_noI (at_ : Int → Int) : renI at_ noI = noI := rfl
theorem ren_getD (at_ : Int → Int) (l : List InsL) (i : Nat) : (l.map (renI at_)).getD i noI = renI at_ (l.getD i noI) := by
  rw [List.getD, List.getD, List.getElem?_map]
  cases l[i]? <;> rfl

/-- a function under way, under its new number -/
def mapFr (h : Nat → Bool) (f : FrL) : FrL := { f with fn := cnt h f.fn }
/-- two runs under way are the same but for the numbers of functions -/
structure Same (u : UniL) (h : Nat → Bool) (s t : StL) : Prop where
  mem : t.mem = s.mem
  inp : t.inp = s.inp
  state : t.state = s.state
  value : t.value = s.value
  outs : t.outs = s.outs
  steps : t.steps = s.steps
  frames : t.frames = s.frames.map (mapFr h)
  inU : ∀ f ∈ s.frames, f.fn < u.funcs.length ∧ h f.fn = true
theorem Same.top {u : UniL} {h : Nat → Bool} {s t : StL} (k : Same u h s t) : topR t = topR s := by
  unfold topR
  rw [k.frames]
  cases s.frames <;> rfl
theorem Same.put {u : UniL} {h : Nat → Bool} {s t : StL} (k : Same u h s t) (d n : Int) : Same u h (putS s d n) (putS t d n) := by
  have hf := k.frames
  have hi := k.inU
  unfold putS
  cases e : s.frames with
  | nil =>
    rw [e] at hf
    rw [show t.frames = [] from hf]
    exact k
  | cons f rest =>
    rw [e] at hf hi
    rw [show t.frames = mapFr h f :: rest.map (mapFr h) from hf]
    exact ⟨k.mem, k.inp, k.state, k.value, k.outs, k.steps, rfl, fun g hg => by
      rcases List.mem_cons.1 hg with rfl | hg
      · exact hi f List.mem_cons_self
      · exact hi g (List.mem_cons_of_mem _ hg)⟩

section
variable {u : UniL} {m : Nat} (hu : ChkOk u) (hm : mainI u.funcs = some m) {s t : StL}
include hu hm
theorem men_jump (k : Same u (tableU u.funcs m) s t) (w : Nat) : Same u (tableU u.funcs m) (jumpS u s w) (jumpS (doneU (tableU u.funcs m) u) t w) := by
  have hf := k.frames
  have hi := k.inU
  unfold jumpS
  cases e : s.frames with
  | nil =>
    rw [e] at hf
    rw [show t.frames = [] from hf]
    exact k
  | cons f rest =>
    rw [e] at hf hi
    rw [show t.frames = mapFr (tableU u.funcs m) f :: rest.map (mapFr (tableU u.funcs m)) from hf]
    obtain ⟨h1, h2⟩ := hi f List.mem_cons_self
    refine ⟨k.mem, k.inp, k.state, k.value, k.outs, k.steps, ?_, fun g hg => ?_⟩
    · show _ :: _ = _ :: _
      congr 1
      unfold jumpF mapFr
      simp only
      rw [men_fn hu hm h1 h2, ren_blF]
      unfold fromL
      rw [ren_ways]
      rfl
    · rcases List.mem_cons.1 hg with rfl | hg
      · exact ⟨h1, h2⟩
      · exact hi g (List.mem_cons_of_mem _ hg)
theorem men_end (k : Same u (tableU u.funcs m) s t) (e : EndL) : Same u (tableU u.funcs m) (endS u s e).1 (endS (doneU (tableU u.funcs m) u) t e).1 ∧ (endS (doneU (tableU u.funcs m) u) t e).2 = (endS u s e).2 := by
  unfold endS
  rw [k.top]
  split
  · exact ⟨men_jump hu hm k _, rfl⟩
  split
  · exact ⟨men_jump hu hm k _, rfl⟩
  have hf := k.frames
  have hi := k.inU
  cases e1 : s.frames with
  | nil =>
    rw [e1] at hf
    rw [show t.frames = [] from hf]
    exact ⟨k, rfl⟩
  | cons f rest =>
    cases e2 : rest with
    | nil =>
      rw [e1, e2] at hf
      rw [show t.frames = [mapFr (tableU u.funcs m) f] from hf]
      exact ⟨⟨k.mem, k.inp, rfl, rfl, k.outs, k.steps, rfl, fun g hg => (by cases hg)⟩, rfl⟩
    | cons g rest2 =>
      rw [e1, e2] at hf hi
      rw [show t.frames = mapFr (tableU u.funcs m) f :: mapFr (tableU u.funcs m) g :: rest2.map (mapFr (tableU u.funcs m)) from hf]
      refine ⟨?_, rfl⟩
      have k2 : Same u (tableU u.funcs m) { s with frames := g :: rest2 } { t with frames := mapFr (tableU u.funcs m) g :: rest2.map (mapFr (tableU u.funcs m)) } :=
        ⟨k.mem, k.inp, k.state, k.value, k.outs, k.steps, rfl, fun x hx => hi x (List.mem_cons_of_mem _ hx)⟩
      exact k2.put f.dst (valL f.regs e.onr e.onn)
theorem men_ins (k : Same u (tableU u.funcs m) s t) (x : InsL) (hx : x.op = 20 → x.fn.toNat < u.funcs.length ∧ tableU u.funcs m x.fn.toNat = true) :
    Same u (tableU u.funcs m) (insS u s x).1 (insS (doneU (tableU u.funcs m) u) t (renI (fun x => atD (tableU u.funcs m) u.funcs.length x.toNat) x)).1 ∧ (insS (doneU (tableU u.funcs m) u) t (renI (fun x => atD (tableU u.funcs m) u.funcs.length x.toNat) x)).2 = (insS u s x).2 := by
  have hr : renI (fun x => atD (tableU u.funcs m) u.funcs.length x.toNat) x = { x with fn := (renI (fun x => atD (tableU u.funcs m) u.funcs.length x.toNat) x).fn } := by
    unfold renI
    split <;> rfl
  rw [hr]
  unfold insS
  simp only
  rw [k.top]
  have hfl : t.frames.length = s.frames.length := by rw [k.frames, List.length_map]
  rw [hfl]
  obtain ⟨tm, ti, ts, tv, tout, tst, tf, tc⟩ := t
  obtain ⟨e1, e2, e3, e4, e5, e6, e7, hin⟩ := k
  simp only at e1 e2 e3 e4 e5 e6 e7
  subst e1 e2 e3 e4 e5 e6 e7
  have k : Same u (tableU u.funcs m) s ⟨s.mem, s.inp, s.state, s.value, s.outs, s.steps, s.frames.map (mapFr (tableU u.funcs m)), tc⟩ := ⟨rfl, rfl, rfl, rfl, rfl, rfl, rfl, hin⟩
  simp only
  split
  · split
    · exact ⟨⟨rfl, k.inp, rfl, k.value, k.outs, k.steps, k.frames, k.inU⟩, rfl⟩
    split
    · exact ⟨⟨rfl, k.inp, k.state, k.value, k.outs, k.steps, k.frames, k.inU⟩, rfl⟩
    · exact ⟨k.put _ _, rfl⟩
  split
  · rename_i h20
    split
    · exact ⟨⟨k.mem, k.inp, rfl, k.value, k.outs, k.steps, k.frames, k.inU⟩, rfl⟩
    · obtain ⟨h1, h2⟩ := hx h20
      have hfn : (renI (fun x => atD (tableU u.funcs m) u.funcs.length x.toNat) x).fn.toNat = cnt (tableU u.funcs m) x.fn.toNat := by
        unfold renI
        rw [if_pos h20]
        show (atD (tableU u.funcs m) u.funcs.length x.fn.toNat).toNat = _
        rw [done_atD hu hm h1 h2]
        omega
      rw [hfn]
      refine ⟨?_, rfl⟩
      unfold enterS
      refine ⟨k.mem, k.inp, k.state, k.value, k.outs, k.steps, ?_, fun g hg => ?_⟩
      · show _ :: _ = _ :: _
        rw [men_fn hu hm h1 h2, k.frames]
        rfl
      · rcases List.mem_cons.1 hg with rfl | hg
        · exact ⟨h1, h2⟩
        · exact k.inU g hg
  split
  · cases e : s.inp with
    | nil =>
      rw [e] at k
      exact ⟨k.put _ _, rfl⟩
    | cons n l =>
      have k2 : Same u (tableU u.funcs m) { s with inp := l } ⟨s.mem, l, s.state, s.value, s.outs, s.steps, s.frames.map (mapFr (tableU u.funcs m)), tc⟩ := ⟨rfl, rfl, rfl, rfl, rfl, rfl, rfl, hin⟩
      exact ⟨k2.put _ _, rfl⟩
  split
  · split
    · exact ⟨⟨k.mem, k.inp, rfl, k.value, k.outs, k.steps, k.frames, k.inU⟩, rfl⟩
    · exact ⟨⟨k.mem, k.inp, k.state, k.value, rfl, k.steps, k.frames, k.inU⟩, rfl⟩
  split
  · exact ⟨⟨k.mem, k.inp, rfl, k.value, k.outs, k.steps, k.frames, k.inU⟩, rfl⟩
  · exact ⟨k.put _ _, rfl⟩
theorem men_step (k : Same u (tableU u.funcs m) s t) : Same u (tableU u.funcs m) (stepS u s).1 (stepS (doneU (tableU u.funcs m) u) t).1 ∧ (stepS (doneU (tableU u.funcs m) u) t).2 = (stepS u s).2 := by
  have hf := k.frames
  have hi := k.inU
  unfold stepS
  cases e : s.frames with
  | nil =>
    rw [e] at hf
    rw [show t.frames = [] from hf]
    exact ⟨k, rfl⟩
  | cons f rest =>
    rw [e] at hf hi
    rw [show t.frames = mapFr (tableU u.funcs m) f :: rest.map (mapFr (tableU u.funcs m)) from hf]
    obtain ⟨h1, h2⟩ := hi f List.mem_cons_self
    have htop : topB (doneU (tableU u.funcs m) u) (mapFr (tableU u.funcs m) f) = putL (topB u f) ((topB u f).list.map (renI fun x => atD (tableU u.funcs m) u.funcs.length x.toNat)) := by
      unfold topB mapFr
      simp only
      rw [men_fn hu hm h1 h2, ren_blF]
    simp only [htop]
    have hlen : (putL (topB u f) ((topB u f).list.map (renI fun x => atD (tableU u.funcs m) u.funcs.length x.toNat))).list.length = (topB u f).list.length := by simp [putL]
    rw [hlen]
    have hpos : (mapFr (tableU u.funcs m) f).pos = f.pos := rfl
    rw [hpos]
    split
    · have k2 : Same u (tableU u.funcs m) { s with steps := s.steps + 1, frames := f :: rest } { t with steps := t.steps + 1, frames := mapFr (tableU u.funcs m) f :: rest.map (mapFr (tableU u.funcs m)) } := ⟨k.mem, k.inp, k.state, k.value, k.outs, by show t.steps + 1 = s.steps + 1; rw [k.steps], rfl, hi⟩
      exact men_end hu hm k2 (topB u f).fin
    · have k2 : Same u (tableU u.funcs m) { s with steps := s.steps + 1, frames := { f with pos := f.pos + 1 } :: rest } { t with steps := t.steps + 1, frames := { mapFr (tableU u.funcs m) f with pos := (mapFr (tableU u.funcs m) f).pos + 1 } :: rest.map (mapFr (tableU u.funcs m)) } :=
        ⟨k.mem, k.inp, k.state, k.value, k.outs, by show t.steps + 1 = s.steps + 1; rw [k.steps], rfl, fun g hg => by
          rcases List.mem_cons.1 hg with rfl | hg
          · exact ⟨h1, h2⟩
          · exact hi g (List.mem_cons_of_mem _ hg)⟩
      have hget : (putL (topB u f) ((topB u f).list.map (renI fun x => atD (tableU u.funcs m) u.funcs.length x.toNat))).list.getD f.pos noI = renI (fun x => atD (tableU u.funcs m) u.funcs.length x.toNat) ((topB u f).list.getD f.pos noI) := ren_getD _ _ _
      rw [hget]
      refine men_ins hu hm k2 _ fun ho => ?_
      have hmem : (topB u f).list.getD f.pos noI ∈ (topB u f).list := by
        rw [List.getD] at ho ⊢
        cases e2 : (topB u f).list[f.pos]? with
        | none => rw [e2] at ho; cases ho
        | some y => exact List.mem_of_getElem? e2
      have hall : (topB u f).list.getD f.pos noI ∈ allIns u.funcs[f.fn] := by
        have hb : topB u f ∈ u.funcs[f.fn].blocks := by
          unfold topB at hmem ⊢
          rw [fnU_get h1] at hmem ⊢
          unfold blF at hmem ⊢
          rw [List.getD] at hmem ⊢
          cases e3 : u.funcs[f.fn].blocks[f.block]? with
          | none => rw [e3] at hmem; cases hmem
          | some y => exact List.mem_of_getElem? e3
        exact List.mem_flatMap.2 ⟨_, hb, hmem⟩
      obtain ⟨q1, q2, q3⟩ := had_call hu hm h1 h2 hall ho
      exact ⟨by omega, q3⟩
theorem men_go : ∀ (n : Nat) {s t : StL}, Same u (tableU u.funcs m) s t → Same u (tableU u.funcs m) (goS u n s) (goS (doneU (tableU u.funcs m) u) n t)
  | 0, s, t, k => ⟨k.mem, k.inp, rfl, k.value, k.outs, k.steps, k.frames, k.inU⟩
  | n + 1, s, t, k => by
    obtain ⟨h1, h2⟩ := men_step hu hm k
    unfold goS
    rw [h2]
    split
    · exact men_go n h1
    · exact h1
theorem men_run (inp : List Int) (fuel : Nat) : Same u (tableU u.funcs m) (runU u inp fuel) (runU (doneU (tableU u.funcs m) u) inp fuel) := by
  unfold runU
  rw [hm, done_main hu hm]
  refine men_go hu hm fuel ?_
  have hml := mainI_lt hm
  have hmm := had_main hu hm
  show Same u (tableU u.funcs m) (startS u inp m) (startS (doneU (tableU u.funcs m) u) inp (cnt (tableU u.funcs m) m))
  unfold startS enterS
  refine ⟨rfl, rfl, rfl, rfl, rfl, rfl, ?_, fun g hg => ?_⟩
  · rw [men_fn hu hm hml hmm]
    rfl
  · rcases List.mem_cons.1 hg with rfl | hg
    · exact ⟨hml, hmm⟩
    · cases hg
theorem men_runF (n : Nat) (fuel : Int) : runF (doneU (tableU u.funcs m) u) n fuel = runF u n fuel := by
  unfold runF
  rw [ChkOk.chk0 hu hm, ChkOk.chk0 (done_ok hu hm) (done_main hu hm)]
  rfl
theorem men_runO (inp : List Int) (fuel : Int) : (runO (doneU (tableU u.funcs m) u) inp fuel).state = (runO u inp fuel).state ∧ (runO (doneU (tableU u.funcs m) u) inp fuel).value = (runO u inp fuel).value ∧ (runO (doneU (tableU u.funcs m) u) inp fuel).outs = (runO u inp fuel).outs ∧ (runO (doneU (tableU u.funcs m) u) inp fuel).steps = (runO u inp fuel).steps := by
  unfold runO
  rw [men_runF hu hm]
  split
  · have k := men_run hu hm inp fuel.toNat
    exact ⟨k.state, k.value, k.outs, k.steps⟩
  · exact ⟨rfl, rfl, rfl, rfl⟩
end
end Go.Proofs.YtdjamkinijhjoaaDoor
namespace Go.Proofs.YtdjamkinijhjoaaDoor
open Go.RowKit Go.Shelf

theorem intsM {w : World} {p : Option Addr} {inp : List Int} (h : SliceAt w 1 IntR p inp) : ∀ x ∈ inp, I64 x := fun _ hx => (slice_mem h hx).elim fun _ h => h.2
theorem outsM_le {u : UniL} {inp : List Int} {fuel : Int} (hI : ∀ x ∈ inp, I64 x) (hU64 : U64 u) : (runO u inp fuel).outs.length ≤ 140737488355328 := by
  unfold runO
  split
  · rename_i h
    obtain ⟨m, hm, hml⟩ := mainI_get (chk_ok (runF_zero h).1).2
    have hu : UOk u := ⟨(chk_ok (runF_zero h).1).2, hU64⟩
    have h1 := (go_ok hu fuel.toNat (start_ok hu hI hml)).outs
    unfold runU
    rw [hm]
    show List.length (goS u fuel.toNat (startS u inp m)).outs ≤ _
    omega
  · show 0 ≤ _
    omega
theorem unA_of {u : UniL} {gp fp : Option Addr} {gc fc : Nat} {w : World} (hG : SlF w 3 48 (GloR w) (.slice gp u.globals.length gc) u.globals) (hF : SlF w 4 56 (FunR w) (.slice fp u.funcs.length fc) u.funcs) (hw : Ways w) : UnA u gp fp w := by
  obtain ⟨⟨h1, h2⟩, h3, h4⟩ := unitAt hG hF
  exact ⟨h1, h2, h3, h4, hw⟩
theorem run_again (D : UniL) (p1 p2 : Option Addr) (c1 c2 ng K : Nat) (hng : D.globals.length = ng) (hK : D.funcs.length = K) (w : World) (hUn : UnA D p1 p2 w) (inp : List Int) (ip : Option Addr) (ic : Nat) (fuel : Int) (hI : SliceAt w 1 IntR ip inp) (hic : inp.length ≤ ic) (hip : ip = none → ic = 0) (st va stp : Int) (F : Int × Int) (outs : List Int) (e1 : (runO D inp fuel).state = st) (e2 : (runO D inp fuel).value = va) (e3 : (runO D inp fuel).outs = outs) (e4 : ((runO D inp fuel).steps : Int) = stp) (e5 : runF D inp.length fuel = F) :
    Calls Tryd.prog 20 #[.agg #[.slice p1 ng c1, .slice p2 K c2], .slice ip inp.length ic, .int .i64 fuel] w fun e w' => ∃ p c, e = .returned (.tuple #[.agg #[.int .i64 st, .int .i64 va, .slice p outs.length c, .int .i64 stp], .agg #[.int .i64 F.1, .int .i64 F.2]]) ∧ SliceAt w' 1 IntR p outs ∧ Below w.heap.size w w' := by
  subst hng hK
  subst e1 e2 e3 e4 e5
  refine (do_any hUn inp ip ic fuel hI hic hip).mono ?_
  rintro e w' ⟨p, c, rfl, h1, _, h2⟩
  exact ⟨p, c, rfl, h1, h2⟩

set_option maxRecDepth 100000 in
set_option maxHeartbeats 1000000 in
theorem cmean_bad (u : UniL) (gp fp : Option Addr) (gc fc : Nat) (inp : List Int) (lp : Option Addr) (lc : Nat) (fuel : Int) (w : World) (hG0 : SlF w 3 48 (GloR w) (.slice gp u.globals.length gc) u.globals) (hF0 : SlF w 4 56 (FunR w) (.slice fp u.funcs.length fc) u.funcs) (hw0 : Ways w) (h : (chk u).1 ≠ 0) :
    Calls Tryd.prog 8 #[.agg #[.slice gp u.globals.length gc, .slice fp u.funcs.length fc], .slice lp inp.length lc, .int .i64 fuel] w fun e w' => e = .returned (.bool true) ∧ Below w.heap.size w w' := by
  obtain ⟨⟨hgl, hG⟩, hfl, hF⟩ := unitAt hG0 hF0
  have HG := hidI hG
  have HF := hidI hF
  have HW := hidI hw0
  have HH := hidI h
  have hne : ((chk u).1 != 0) = true := by simp [h]
  clear hG hF hG0 hF0 hw0 h
  go_enter Tryd.func8, Tryd.ntmps8
  go_wp2_with fail
  refine (do_bad u _ _ _ _ _ hgl (glosMono HG.out (by repeat (first | with_reducible exact Below.refl _ _ | with_reducible exact HB3.out | with_reducible refine Below.drew ?_ | with_reducible refine below_drewN ?_ _ | with_reducible refine Below.setCell ?_ ?_ _ | with_reducible refine Below.alloc ?_ ?_ _ | with_reducible exact HB2.out | with_reducible exact HB1.out | with_reducible refine Below.trans ?_ (Below.mono hb3 ?_) | with_reducible refine Below.trans ?_ (Below.mono hb5 ?_) | with_reducible refine Below.trans ?_ (Below.mono hb4 ?_) | omega | (simp; omega) | simp))) hfl (funsMono HF.out (by repeat (first | with_reducible exact Below.refl _ _ | with_reducible exact HB3.out | with_reducible refine Below.drew ?_ | with_reducible refine below_drewN ?_ _ | with_reducible refine Below.setCell ?_ ?_ _ | with_reducible refine Below.alloc ?_ ?_ _ | with_reducible exact HB2.out | with_reducible exact HB1.out | with_reducible refine Below.trans ?_ (Below.mono hb3 ?_) | with_reducible refine Below.trans ?_ (Below.mono hb5 ?_) | with_reducible refine Below.trans ?_ (Below.mono hb4 ?_) | omega | (simp; omega) | simp))) (HW.out.below (by repeat (first | with_reducible exact Below.refl _ _ | with_reducible exact HB3.out | with_reducible refine Below.drew ?_ | with_reducible refine below_drewN ?_ _ | with_reducible refine Below.setCell ?_ ?_ _ | with_reducible refine Below.alloc ?_ ?_ _ | with_reducible exact HB2.out | with_reducible exact HB1.out | with_reducible refine Below.trans ?_ (Below.mono hb3 ?_) | with_reducible refine Below.trans ?_ (Below.mono hb5 ?_) | with_reducible refine Below.trans ?_ (Below.mono hb4 ?_) | omega | (simp; omega) | simp))) HH.out).mono ?_
  rintro e w1 ⟨rfl, hb1⟩
  have HB1 : Hid (Below w.heap.size w w1) := Below.trans (by repeat (first | with_reducible exact Below.refl _ _ | with_reducible exact HB3.out | with_reducible refine Below.drew ?_ | with_reducible refine below_drewN ?_ _ | with_reducible refine Below.setCell ?_ ?_ _ | with_reducible refine Below.alloc ?_ ?_ _ | with_reducible exact HB2.out | with_reducible exact HB1.out | with_reducible refine Below.trans ?_ (Below.mono hb3 ?_) | with_reducible refine Below.trans ?_ (Below.mono hb5 ?_) | with_reducible refine Below.trans ?_ (Below.mono hb4 ?_) | omega | (simp; omega) | simp)) (hb1.mono (by simp))
  clear hb1
  have hzz : w.heap.size < w1.heap.size + 1 := by have := HB1.out.size; omega
  go_wp2_with (go_at_call 15; refine (none_none _).mono ?_; rintro e w4 ⟨rfl, hb4⟩)
  have HB4 : Hid (Below w.heap.size w w4) := Below.trans (by repeat (first | with_reducible exact Below.refl _ _ | with_reducible exact HB3.out | with_reducible refine Below.drew ?_ | with_reducible refine below_drewN ?_ _ | with_reducible refine Below.setCell ?_ ?_ _ | with_reducible refine Below.alloc ?_ ?_ _ | with_reducible exact HB2.out | with_reducible exact HB1.out | with_reducible refine Below.trans ?_ (Below.mono hb3 ?_) | with_reducible refine Below.trans ?_ (Below.mono hb5 ?_) | with_reducible refine Below.trans ?_ (Below.mono hb4 ?_) | omega | (simp; omega) | simp)) (hb4.mono (by have := HB1.out.size; simp; omega))
  clear hb4
  go_wp2_with fail
  go_ret
  exact ⟨rfl, HB4.out⟩

set_option maxRecDepth 100000 in
set_option maxHeartbeats 2000000 in
theorem cmean_ok (u : UniL) (gp fp : Option Addr) (gc fc : Nat) (inp : List Int) (lp : Option Addr) (lc : Nat) (fuel : Int) (m : Nat) (w : World) (hG0 : SlF w 3 48 (GloR w) (.slice gp u.globals.length gc) u.globals) (hF0 : SlF w 4 56 (FunR w) (.slice fp u.funcs.length fc) u.funcs) (hw0 : Ways w) (hI : SliceAt w 1 IntR lp inp) (hic : inp.length ≤ lc) (hip : lp = none → lc = 0) (h : (chk u).1 = 0) (hm : mainI u.funcs = some m) :
    Calls Tryd.prog 8 #[.agg #[.slice gp u.globals.length gc, .slice fp u.funcs.length fc], .slice lp inp.length lc, .int .i64 fuel] w fun e w' => e = .returned (.bool true) ∧ Below w.heap.size w w' := by
  obtain ⟨⟨hgl, hG⟩, hfl, hF⟩ := unitAt hG0 hF0
  have hok := (chk_ok h).2
  have hml := mainI_lt hm
  obtain ⟨D, hDe⟩ : ∃ D, D = doneU (tableU u.funcs m) u := ⟨_, rfl⟩
  obtain ⟨K, hK⟩ : ∃ K, K = cnt (tableU u.funcs m) u.funcs.length := ⟨_, rfl⟩
  have hDl : D.funcs.length = K := by rw [hDe, hK]; exact done_len hok hm
  have hDg : D.globals = u.globals := by rw [hDe]; rfl
  have hKp : 0 < K := by rw [hK]; exact Nat.lt_of_le_of_lt (Nat.zero_le _) (cnt_lt (tableU u.funcs m) hml (had_main hok hm))
  have hKb : ((K : Int) == 0) = false := by simp; omega
  have hRO := men_runO hok hm inp fuel
  have hRF := men_runF hok hm inp.length fuel
  rw [← hDe] at hRO hRF
  have hUn := unA_of hG0 hF0 hw0
  have hol := outsM_le (fuel := fuel) (intsM hI) (U64.of hUn)
  have HUn := hidI hUn
  have HI := hidI hI
  have HG0 := hidI hG0
  have HF0 := hidI hF0
  have HG := hidI hG
  have HF := hidI hF
  have HW := hidI hw0
  have HH := hidI h
  have HM := hidI hm
  have HDe := hidI hDe
  have HDl := hidI hDl
  have HDg := hidI hDg
  have HRO := hidI (And.intro hRO hRF)
  have HP := hidI hip
  clear hG hF hG0 hF0 hw0 h hm hok hDe hDl hDg hRO hRF hUn hI hK hip
  go_enter Tryd.func8, Tryd.ntmps8
  go_wp2_with fail
  refine (do_ok u gp fp gc fc m _ hgl (HG0.out.mono (by repeat (first | with_reducible exact Below.refl _ _ | with_reducible exact HB3.out | with_reducible refine Below.drew ?_ | with_reducible refine below_drewN ?_ _ | with_reducible refine Below.setCell ?_ ?_ _ | with_reducible refine Below.alloc ?_ ?_ _ | with_reducible exact HB2.out | with_reducible exact HB1.out | with_reducible refine Below.trans ?_ (Below.mono hb3 ?_) | with_reducible refine Below.trans ?_ (Below.mono hb5 ?_) | with_reducible refine Below.trans ?_ (Below.mono hb4 ?_) | omega | (simp; omega) | simp)) (by omega) fun _ _ g => g.below (by repeat (first | with_reducible exact Below.refl _ _ | with_reducible exact HB3.out | with_reducible refine Below.drew ?_ | with_reducible refine below_drewN ?_ _ | with_reducible refine Below.setCell ?_ ?_ _ | with_reducible refine Below.alloc ?_ ?_ _ | with_reducible exact HB2.out | with_reducible exact HB1.out | with_reducible refine Below.trans ?_ (Below.mono hb3 ?_) | with_reducible refine Below.trans ?_ (Below.mono hb5 ?_) | with_reducible refine Below.trans ?_ (Below.mono hb4 ?_) | omega | (simp; omega) | simp))) hfl (HF0.out.mono (by repeat (first | with_reducible exact Below.refl _ _ | with_reducible exact HB3.out | with_reducible refine Below.drew ?_ | with_reducible refine below_drewN ?_ _ | with_reducible refine Below.setCell ?_ ?_ _ | with_reducible refine Below.alloc ?_ ?_ _ | with_reducible exact HB2.out | with_reducible exact HB1.out | with_reducible refine Below.trans ?_ (Below.mono hb3 ?_) | with_reducible refine Below.trans ?_ (Below.mono hb5 ?_) | with_reducible refine Below.trans ?_ (Below.mono hb4 ?_) | omega | (simp; omega) | simp)) (by omega) fun _ _ g => g.below (by repeat (first | with_reducible exact Below.refl _ _ | with_reducible exact HB3.out | with_reducible refine Below.drew ?_ | with_reducible refine below_drewN ?_ _ | with_reducible refine Below.setCell ?_ ?_ _ | with_reducible refine Below.alloc ?_ ?_ _ | with_reducible exact HB2.out | with_reducible exact HB1.out | with_reducible refine Below.trans ?_ (Below.mono hb3 ?_) | with_reducible refine Below.trans ?_ (Below.mono hb5 ?_) | with_reducible refine Below.trans ?_ (Below.mono hb4 ?_) | omega | (simp; omega) | simp))) (HW.out.below (by repeat (first | with_reducible exact Below.refl _ _ | with_reducible exact HB3.out | with_reducible refine Below.drew ?_ | with_reducible refine below_drewN ?_ _ | with_reducible refine Below.setCell ?_ ?_ _ | with_reducible refine Below.alloc ?_ ?_ _ | with_reducible exact HB2.out | with_reducible exact HB1.out | with_reducible refine Below.trans ?_ (Below.mono hb3 ?_) | with_reducible refine Below.trans ?_ (Below.mono hb5 ?_) | with_reducible refine Below.trans ?_ (Below.mono hb4 ?_) | omega | (simp; omega) | simp))) HH.out HM.out).mono ?_
  rintro e w1 ⟨⟨p1, c1, p2, c2, rfl, S, hS, hSl⟩, hb1⟩
  rw [← HDe.out] at hS ⊢
  rw [HDl.out] at hS ⊢
  have HB1 : Hid (Below w.heap.size w w1) := Below.trans (by repeat (first | with_reducible exact Below.refl _ _ | with_reducible exact HB3.out | with_reducible refine Below.drew ?_ | with_reducible refine below_drewN ?_ _ | with_reducible refine Below.setCell ?_ ?_ _ | with_reducible refine Below.alloc ?_ ?_ _ | with_reducible exact HB2.out | with_reducible exact HB1.out | with_reducible refine Below.trans ?_ (Below.mono hb3 ?_) | with_reducible refine Below.trans ?_ (Below.mono hb5 ?_) | with_reducible refine Below.trans ?_ (Below.mono hb4 ?_) | omega | (simp; omega) | simp)) (hb1.mono (by simp))
  have hA := heap_below hb1 (k := w.heap.size) (by simp) (heap_here w _)
  obtain ⟨_, _, e1, a1, a2⟩ := hS.read
  simp only [List.cons.injEq, and_true] at e1
  obtain ⟨rfl, rfl⟩ := e1
  rw [HDg.out] at a1
  have HS := hidI (And.intro a1 a2)
  have HA := hidI hA
  have k0 : w1.cell? ⟨w.heap.size, 0, none⟩ = some (.slice gp u.globals.length gc) := (blk hA).1 0
  have k1 : w1.cell? ⟨w.heap.size, 1, none⟩ = some (.slice fp u.funcs.length fc) := (blk hA).1 1
  have kz := ltHeap hA
  have kz1 : w.heap.size < w1.heap.size + 1 := by omega
  have hzz : w1.heap.size < w1.heap.size + 1 := by omega
  clear hb1 hS hSl hA a1 a2
  go_wp2_with fail
  obtain ⟨W2, hW2⟩ : ∃ W2, W2 = (w1.alloc (.cells #[.slice p1 u.globals.length c1, .slice p2 K c2] 25)).alloc (.cells #[.int .i64 0, .int .i64 0] 28) := ⟨_, rfl⟩
  rw [← hW2]
  have hb12 : Below w1.heap.size w1 W2 := by rw [hW2]; exact ((Below.refl _ _).alloc (Nat.le_refl _) _).alloc (by simp) _
  have hzW2 : W2.heap.size = w1.heap.size + 1 + 1 := by rw [hW2]; simp
  have HV : Hid (W2.heap[w1.heap.size]? = some (.cells #[.slice p1 u.globals.length c1, .slice p2 K c2] 25 (0, 0))) := hidI (by rw [hW2]; exact heap_step (heap_at rfl))
  clear hW2
  have hbW2 : Below w.heap.size w W2 := HB1.out.trans (hb12.mono HB1.out.size)
  have HBW2 := hidI hbW2
  have HB12 := hidI hb12
  clear hb12 hbW2 k0 k1 kz1 hzz
  refine (do_any (HUn.out.mono HBW2.out) inp lp lc fuel (HI.out.mono HBW2.out (by omega) fun _ _ g => g) hic HP.out).mono ?_
  rintro e w3 ⟨p, c, rfl, hS1, _, hb3⟩
  have HB23 := hidI hb3
  have HS1 := hidI hS1
  have hV3 := (hb3.block w1.heap.size (ltHeap HV.out)).trans HV.out
  have v0 : w3.cell? ⟨w1.heap.size, 0, none⟩ = some (.slice p1 u.globals.length c1) := (blk hV3).1 0
  have v1 : w3.cell? ⟨w1.heap.size, 1, none⟩ = some (.slice p2 K c2) := (blk hV3).1 1
  have vz := ltHeap hV3
  have vz1 : w1.heap.size < w3.heap.size + 1 := by omega
  clear hb3 hS1 hV3
  go_wp2_with fail
  obtain ⟨W4, hW4⟩ : ∃ W4, W4 = (w3.alloc (.cells #[.int .i64 (runO u inp fuel).state, .int .i64 (runO u inp fuel).value, .slice p (runO u inp fuel).outs.length c, .int .i64 (runO u inp fuel).steps] 65)).alloc (.cells #[.int .i64 (runF u inp.length fuel).1, .int .i64 (runF u inp.length fuel).2] 28) := ⟨_, rfl⟩
  rw [← hW4]
  have hb34 : Below w3.heap.size w3 W4 := by rw [hW4]; exact ((Below.refl _ _).alloc (Nat.le_refl _) _).alloc (by simp) _
  have HO1 : Hid (W4.heap[w3.heap.size]? = some (.cells #[.int .i64 (runO u inp fuel).state, .int .i64 (runO u inp fuel).value, .slice p (runO u inp fuel).outs.length c, .int .i64 (runO u inp fuel).steps] 65 (0, 0))) := hidI (by rw [hW4]; exact heap_step (heap_at rfl))
  have HE1 : Hid (W4.heap[w3.heap.size + 1]? = some (.cells #[.int .i64 (runF u inp.length fuel).1, .int .i64 (runF u inp.length fuel).2] 28 (0, 0))) := hidI (by rw [hW4]; exact heap_at (by simp))
  clear hW4 v0 v1 vz1
  have h24 : Below W2.heap.size W2 W4 := HB23.out.trans (hb34.mono HB23.out.size)
  have h14 : Below w1.heap.size w1 W4 := HB12.out.trans (h24.mono HB12.out.size)
  have h04 : Below w.heap.size w W4 := HB1.out.trans (h14.mono HB1.out.size)
  have hD4 : UnA D p1 p2 W4 := unA_of (gc := c1) (fc := c2) (by rw [HDg.out]; exact HS.out.1.mono h14 (by omega) fun _ _ g => g.below h14) (by rw [HDl.out]; exact HS.out.2.mono h14 (by omega) fun _ _ g => g.below h14) (HW.out.below h04)
  refine (run_again D p1 p2 c1 c2 u.globals.length K (by rw [HDg.out]) HDl.out W4 hD4 inp lp lc fuel (HI.out.mono h04 (by omega) fun _ _ g => g) hic HP.out _ _ _ _ _ HRO.out.1.1 HRO.out.1.2.1 HRO.out.1.2.2.1 (by rw [HRO.out.1.2.2.2]) HRO.out.2).mono ?_
  rintro e w5 ⟨q, d, rfl, hS2, hb5⟩
  have HB5 := hidI hb5
  have HS2 := hidI hS2
  have HB04 := hidI h04
  have HB34 := hidI hb34
  have hO5 := (hb5.block w3.heap.size (ltHeap HO1.out)).trans HO1.out
  have hE5 := (hb5.block (w3.heap.size + 1) (ltHeap HE1.out)).trans HE1.out
  have x0 : w5.cell? ⟨w3.heap.size, 0, none⟩ = some (.int .i64 (runO u inp fuel).state) := (blk hO5).1 0
  have x1 : w5.cell? ⟨w3.heap.size, 1, none⟩ = some (.int .i64 (runO u inp fuel).value) := (blk hO5).1 1
  have x2 : w5.cell? ⟨w3.heap.size, 2, none⟩ = some (.slice p (runO u inp fuel).outs.length c) := (blk hO5).1 2
  have x3 : w5.cell? ⟨w3.heap.size, 3, none⟩ = some (.int .i64 (runO u inp fuel).steps) := (blk hO5).1 3
  have y0 : w5.cell? ⟨w3.heap.size + 1, 0, none⟩ = some (.int .i64 (runF u inp.length fuel).1) := (blk hE5).1 0
  have y1 : w5.cell? ⟨w3.heap.size + 1, 1, none⟩ = some (.int .i64 (runF u inp.length fuel).2) := (blk hE5).1 1
  have z1 := ltHeap hO5
  have z2 := ltHeap hE5
  have z3 : w3.heap.size < w5.heap.size + 1 := by omega
  have z4 : w3.heap.size + 1 < w5.heap.size + 1 := by omega
  have hq : ∀ w, (binOp .eql 28 (.agg #[.int .i64 (runF u inp.length fuel).1, .int .i64 (runF u inp.length fuel).2]) (.agg #[.int .i64 (runF u inp.length fuel).1, .int .i64 (runF u inp.length fuel).2])).run Tryd.prog w = .ok (.bool true) w := fun w => by rw [run_eqFault]; simp
  have h35 : Below w3.heap.size w3 w5 := HB34.out.trans (hb5.mono HB34.out.size)
  have HBw5 := hidI (HB04.out.trans (hb5.mono HB04.out.size))
  have HOc := hidI fun (W : World) (h : Below w5.heap.size w5 W) => outcomes_any (runO u inp fuel).state (runO u inp fuel).state (runO u inp fuel).value (runO u inp fuel).value (runO u inp fuel).steps (runO u inp fuel).steps (runO u inp fuel).outs (runO u inp fuel).outs p q c d W hol hol ((HS1.out.mono h35 (by omega) fun _ _ g => g).mono h (by omega) fun _ _ g => g) (HS2.out.mono h (by omega) fun _ _ g => g)
  have he : decide ((((runO u inp fuel).state : Int) = (runO u inp fuel).state ∧ (runO u inp fuel).value = (runO u inp fuel).value ∧ (runO u inp fuel).outs = (runO u inp fuel).outs) ∧ (((runO u inp fuel).steps : Nat) : Int) = ((runO u inp fuel).steps : Nat)) = true := by simp
  rw [he] at HOc
  clear hb5 hS2 h24 h14 h04 hD4 hb34 hO5 hE5 he h35 HE1 HRO
  generalize (runF u inp.length fuel).1 = F1 at y0 hq ⊢
  generalize (runF u inp.length fuel).2 = F2 at y1 hq ⊢
  go_wp2_with (go_at_call 21; refine (HOc.out _ (by repeat (first | with_reducible exact Below.refl _ _ | with_reducible exact HB3.out | with_reducible refine Below.drew ?_ | with_reducible refine below_drewN ?_ _ | with_reducible refine Below.setCell ?_ ?_ _ | with_reducible refine Below.alloc ?_ ?_ _ | with_reducible exact HB2.out | with_reducible exact HB1.out | with_reducible refine Below.trans ?_ (Below.mono hb3 ?_) | with_reducible refine Below.trans ?_ (Below.mono hb5 ?_) | with_reducible refine Below.trans ?_ (Below.mono hb4 ?_) | omega | (simp; omega) | simp))).mono ?_; rintro e w6 ⟨rfl, hb6⟩)
  have HB6 : Hid (Below w.heap.size w w6) := HBw5.out.trans (Below.trans (by repeat (first | with_reducible exact Below.refl _ _ | with_reducible exact HB3.out | with_reducible refine Below.drew ?_ | with_reducible refine below_drewN ?_ _ | with_reducible refine Below.setCell ?_ ?_ _ | with_reducible refine Below.alloc ?_ ?_ _ | with_reducible exact HB2.out | with_reducible exact HB1.out | with_reducible refine Below.trans ?_ (Below.mono hb3 ?_) | with_reducible refine Below.trans ?_ (Below.mono hb5 ?_) | with_reducible refine Below.trans ?_ (Below.mono hb4 ?_) | omega | (simp; omega) | simp)) (hb6.mono (by simp; omega)))
  clear hb6
  go_wp2_with fail
  go_ret
  exact ⟨rfl, HB6.out⟩
theorem cmean_all (u : UniL) (gp fp : Option Addr) (gc fc : Nat) (inp : List Int) (lp : Option Addr) (lc : Nat) (fuel : Int) (w : World) (hG0 : SlF w 3 48 (GloR w) (.slice gp u.globals.length gc) u.globals) (hF0 : SlF w 4 56 (FunR w) (.slice fp u.funcs.length fc) u.funcs) (hw0 : Ways w)
    (hip : lp = none → inp.length = 0 ∧ lc = 0) (hic : inp.length ≤ lc) (_hlw : lc * 8 ≤ reachBytes) (hI : SliceAt w 1 IntR lp inp) (_hf : I64 fuel) :
    Calls Tryd.prog 8 #[.agg #[.slice gp u.globals.length gc, .slice fp u.funcs.length fc], .slice lp inp.length lc, .int .i64 fuel] w fun e w' => e = .returned (.bool true) ∧ Below w.heap.size w w' := by
  by_cases h : (chk u).1 = 0
  · obtain ⟨m, hm, _⟩ := (chk_ok h).2.main
    exact cmean_ok u gp fp gc fc inp lp lc fuel m w hG0 hF0 hw0 hI hic (fun e => (hip e).2) h hm
  · exact cmean_bad u gp fp gc fc inp lp lc fuel w hG0 hF0 hw0 h
end Go.Proofs.YtdjamkinijhjoaaDoor
