/-
  The contracts of turneryref5.CallsRings and turneryref5.CallsOrder.
-/
import Derived.Test.YtlalmbklhmpngaaDoorCalZ
import Derived.Deep.RegionHeld3
import Derived.Deep.RegionWith
import Derived.BigQuiet
import Derived.Deep.QuietTactic
import Derived.WalkKit
import Derived.WalkSpells
import Derived.WalkLawsBesides
namespace Go.Proofs.YtlalmbklhmpngaaDoor
open Go.RowKit

theorem infoInt7 : (Tryd.prog.info? 3).map (fun i => (i.zero, i.size, i.bytes)) = some (some (.int .i64 0), 1, 8) := by kernel_rfl
theorem underInts7 : Tryd.prog.underlying 38 = some (.slice 3) := by kernel_rfl

set_option maxRecDepth 100000 in
set_option maxHeartbeats 1000000 in
theorem refRings_any (xs : List FunL) (gp fp : Option Addr) (gl gc fc : Nat) (w : World) (hl : xs.length ≤ 10) (hF : SliceAt w 4 (FunR w) fp xs) :
    Calls Tryd.prog 94 #[.agg #[.slice gp gl gc, .slice fp xs.length fc]] w fun e w' => (∃ p c, e = .returned (.slice p xs.length c) ∧ SliceAt w' 1 IntR p (ringsL xs.length (tableU xs))) ∧ Below w.heap.size w w' := by
  obtain ⟨i1, k1, k2, k3, k4⟩ := info_parts infoInt7
  have HF := hidI hF
  clear hF
  go_enter Tryd.func94, Tryd.ntmps94
  go_wp2_with fail
  refine (table_any xs _ _ _ _ _ _ hl (funsMono HF.out (by repeat (first | with_reducible exact Below.refl _ _ | with_reducible exact HB3.out | with_reducible refine Below.drew ?_ | with_reducible refine below_drewN ?_ _ | with_reducible refine Below.setCell ?_ ?_ _ | with_reducible refine Below.alloc ?_ ?_ _ | with_reducible exact HB2.out | with_reducible exact HB1.out | with_reducible refine Below.trans ?_ (Below.mono hb3 ?_) | with_reducible refine Below.trans ?_ (Below.mono hb5 ?_) | with_reducible refine Below.trans ?_ (Below.mono hb4 ?_) | omega | (simp; omega) | simp)))).mono ?_
  rintro e w1 ⟨⟨p, c, g, rfl, hT⟩, hb1⟩
  have HT := hidI hT
  have HB1 : Hid (Below w.heap.size w w1) := Below.trans (by repeat (first | with_reducible exact Below.refl _ _ | with_reducible exact HB3.out | with_reducible refine Below.drew ?_ | with_reducible refine below_drewN ?_ _ | with_reducible refine Below.setCell ?_ ?_ _ | with_reducible refine Below.alloc ?_ ?_ _ | with_reducible exact HB2.out | with_reducible exact HB1.out | with_reducible refine Below.trans ?_ (Below.mono hb3 ?_) | with_reducible refine Below.trans ?_ (Below.mono hb5 ?_) | with_reducible refine Below.trans ?_ (Below.mono hb4 ?_) | omega | (simp; omega) | simp)) (hb1.mono (by simp))
  clear hT hb1
  go_wp2_with fail
  go_loopw [4, 5] (fun v i wr => ∃ k : Nat, k ≤ xs.length ∧ i = .int .i64 k ∧ wr.ownsRow w1.heap.size 3 1 v k (((List.range k).map fun j => (ringN xs.length (tableU xs) j : Int)).map (.int .i64)) ∧ Below w1.heap.size w1 wr) (fun _ i _ => xs.length - (intOf i).toNat)
  case atStart => exact ⟨0, by omega, rfl, World.ownsRow_nil _ _ _ _, Below.refl _ _⟩
  case round =>
    obtain ⟨k, hk, rfl, hown, hb⟩ := hrel
    obtain ⟨q, d, hq⟩ := own_slice hown
    subst hq
    have HO := hidI hown
    have HB := hidI hb
    have HT1 := hidI (HT.out.below hb)
    clear hown hb
    by_cases hlt : k < xs.length
    · obtain ⟨r1, r2, r3, r4⟩ := ringN_spec hlt ((reachU xs).refl k hlt)
      go_wp2_with fail
      go_loop [6] (fun i => ∃ x : Nat, x ≤ ringN xs.length (tableU xs) k ∧ i = .int .i64 x) (fun i => xs.length - (intOf i).toNat)
      case atStart => exact ⟨0, by omega, rfl⟩
      case round =>
        obtain ⟨x, hx, rfl⟩ := hrel
        have hxn : x < xs.length := by omega
        obtain ⟨q1, rfl, c1⟩ := HT1.out.cell hlt
        obtain ⟨q2, hq2, c2⟩ := HT1.out.cell hxn
        cases hq2
        obtain ⟨b1, _⟩ := HT1.out.bit hlt hxn
        obtain ⟨b2, _⟩ := HT1.out.bit hxn hlt
        have z1 := lt_of_cell c1
        have g1 : (x : Int) < xs.length := by omega
        have g2 : (k : Int) < xs.length := by omega
        have H3 := hidI r3
        have H4 := hidI r4
        clear r3 r4
        have stay : sameR (tableU xs) k x = false → x + 1 ≤ ringN xs.length (tableU xs) k := fun hf => by
          rcases Nat.lt_or_ge x (ringN xs.length (tableU xs) k) with h | h
          · exact h
          · obtain rfl : x = ringN xs.length (tableU xs) k := by omega
            rw [H3.out] at hf
            cases hf
        have HSt := hidI stay
        clear stay
        cases h1 : tableU xs k x
        · have HS := hidI (HSt.out (by unfold sameR; rw [h1]; rfl))
          rw [h1] at b1
          clear h1
          go_wp2_with fail
          exact ⟨⟨x + 1, HS.out, by go_num⟩, by simp [intOf]; omega⟩
        · cases h2 : tableU xs x k
          · have HS := hidI (HSt.out (by unfold sameR; rw [h2, Bool.and_false]))
            rw [h1] at b1
            rw [h2] at b2
            clear h1 h2
            go_wp2_with fail
            exact ⟨⟨x + 1, HS.out, by go_num⟩, by simp [intOf]; omega⟩
          · have HS : Hid (x = ringN xs.length (tableU xs) k) := by
              show _ = _
              rcases Nat.lt_or_ge x (ringN xs.length (tableU xs) k) with h | h
              · have := H4.out x h
                unfold sameR at this
                rw [h1, h2] at this
                cases this
              · omega
            rw [h1] at b1
            rw [h2] at b2
            clear h1 h2
            go_wp2_with (at_builtin; refine wpList_append_own_at _ rfl _ _ 38 rfl w1.heap.size 3 i1 (.int .i64 0) 1 8 underInts7 k1 k2 k3 k4 rfl (by decide) _ _ _ rfl (HO.out.alloc _) ⟨wr.heap.size, 0, none⟩ 1 1 [.int .i64 x] rfl rfl (cell_one_at _ _ _ _ rfl) (by simp [Value.oneCell']) ?_ ?_ ?_ ?_)
            · unfold maxLen; omega
            · omega
            · have := HB.out.size; simp; omega
            intro v' w3 hown' hgrow _ _
            obtain ⟨g', cap', rfl⟩ := ownsRow_succ' hown'
            have HO3 : Hid (w3.ownsRow w1.heap.size 3 1 (.slice (some ⟨g', 0, none⟩) (k + 1) cap') (k + 1) (((List.range (k + 1)).map fun j => (ringN xs.length (tableU xs) j : Int)).map (.int .i64))) := by
              show World.ownsRow _ _ _ _ _ _ _
              rw [List.range_succ, List.map_append, List.map_append, List.map_singleton, List.map_singleton, ← HS.out, List.map_map]
              exact hown'
            have HB3 : Hid (Below w1.heap.size w1 w3) := by
              refine (HB.out.alloc HB.out.size _).grown hgrow (by have := HB.out.size; simp; omega) (fun kk e => ?_)
              exact (HO.out.lt kk e).1
            clear hown' hgrow
            go_wp2_with fail
            exact ⟨⟨k + 1, by omega, by go_num, HO3.out, HB3.out⟩, by simp [intOf]; omega⟩
    · obtain rfl : k = xs.length := by omega
      go_wp2_with fail
      go_ret
      obtain ⟨p', c', e, hs⟩ := own_ints (xs := ringsL xs.length (tableU xs)) (ringsL_len _ _) HO.out (fun y hy => by
        unfold ringsL at hy
        obtain ⟨j, hj, rfl⟩ := List.mem_map.1 hy
        have hj2 := List.mem_range.1 hj
        have := (ringN_spec hj2 ((reachU xs).refl j hj2)).1
        unfold I64
        omega)
      simp only [Value.slice.injEq] at e
      obtain ⟨rfl, _, _⟩ := e
      exact ⟨⟨_, _, rfl, hs⟩, HB1.out.trans (HB.out.mono (by have := HB1.out.size; omega))⟩

theorem infoBool8 : (Tryd.prog.info? 4).map (fun i => (i.zero, i.size, i.bytes)) = some (some (.bool false), 1, 1) := by kernel_rfl
theorem underBools8 : Tryd.prog.underlying 50 = some (.slice 4) := by kernel_rfl
/-- ready by the first x that may be called -/
def readyTo (E : Nat → Nat → Bool) (r : Nat → Nat) (told : Nat → Bool) (k x : Nat) : Bool := !told k && (List.range x).all fun y => !(E k y && !told y && r y != r k)
theorem readyTo_all (n : Nat) (E : Nat → Nat → Bool) (r : Nat → Nat) (told : Nat → Bool) (k : Nat) : readyTo E r told k n = readyB n E r told k := rfl
theorem readyTo_zero (E : Nat → Nat → Bool) (r : Nat → Nat) (told : Nat → Bool) (k : Nat) : readyTo E r told k 0 = !told k := by simp [readyTo]
theorem readyTo_succ (E : Nat → Nat → Bool) (r : Nat → Nat) (told : Nat → Bool) (k x : Nat) : readyTo E r told k (x + 1) = (readyTo E r told k x && !(E k x && !told x && r x != r k)) := by
  unfold readyTo
  rw [List.range_succ, List.all_append]
  simp [Bool.and_assoc]

/-- an operation that yields its value in every world that meets S is taken first -/
theorem takeW {P : Program} {ops : Array Oper} {Q : Exit → Act → World → Prop} {md : Region.Mode} {S : World → Prop} (i d : Nat) (v : Value) {oi : Oper} {fuel : Nat} {listed : Array Bool} {a : Act} {w : World} (hi : ops[i]? = some oi) (hd : oi.dst = some d)
    (hs : Region.noSelect ops = true) (hf : Region.free md ops listed i = true) (hr : (Region.ready md ops listed).contains i = true)
    (hQ : ∀ c a w, Q (.panic c) (a.put (some d) v) w → Q (.panic c) a w) (hy : YieldsIf P ops S oi v a) (hS : S w)
    (h : wpAnyH P md ops Q S fuel (listed.setIfInBounds i true) (a.put (some d) v) w) : wpAnyH P md ops Q S (fuel + 1) listed a w :=
  wpAnyH_take hi hs hf hr (by rw [hd]; exact hQ) hy hS (by rw [hd]; exact h)
end Go.Proofs.YtlalmbklhmpngaaDoor
