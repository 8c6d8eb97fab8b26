/-
  The contracts of turneryref5.CallsRings and turneryref5.CallsOrder.
-/
import Derived.Test.YteckkdmgkikeaaaDoorCalZ
import Derived.Deep.RegionHeld3
import Derived.Deep.RegionWith
import Derived.BigQuiet
import Derived.Deep.QuietTactic
import Derived.WalkKit
import Derived.WalkSpells
import Derived.WalkLawsBesides
namespace Go.Proofs.YteckkdmgkikeaaaDoor
open Go.RowKit

theorem infoInt7 : (Tryd.prog.info? 3).map (fun i => (i.zero, i.size, i.bytes)) = some (some (.int .i64 0), 1, 8) := by kernel_rfl
theorem underInts7 : Tryd.prog.underlying 39 = some (.slice 3) := by kernel_rfl

set_option maxRecDepth 100000 in
set_option maxHeartbeats 1000000 in
theorem refRings_any (xs : List FunL) (gp fp : Option Addr) (gl gc fc : Nat) (w : World) (hl : xs.length ≤ 10) (hF : SliceAt w 4 (FunR w) fp xs) :
    Calls Tryd.prog 32 #[.agg #[.slice gp gl gc, .slice fp xs.length fc]] w fun e w' => (∃ p c, e = .returned (.slice p xs.length c) ∧ SliceAt w' 1 IntR p (ringsL xs.length (tableU xs))) ∧ Below w.heap.size w w' := by
  obtain ⟨i1, k1, k2, k3, k4⟩ := info_parts infoInt7
  have HF := hidI hF
  clear hF
  go_enter Tryd.func32, Tryd.ntmps32
  go_wp2_with fail
  refine (table_any xs _ _ _ _ _ _ hl (funsMono HF.out (by repeat (first | with_reducible exact Below.refl _ _ | with_reducible exact HB3.out | with_reducible refine Below.drew ?_ | with_reducible refine below_drewN ?_ _ | with_reducible refine Below.setCell ?_ ?_ _ | with_reducible refine Below.alloc ?_ ?_ _ | with_reducible exact HB2.out | with_reducible exact HB1.out | with_reducible refine Below.trans ?_ (Below.mono hb3 ?_) | with_reducible refine Below.trans ?_ (Below.mono hb5 ?_) | with_reducible refine Below.trans ?_ (Below.mono hb4 ?_) | omega | (simp; omega) | simp)))).mono ?_
  rintro e w1 ⟨⟨p, c, g, rfl, hT⟩, hb1⟩
  have HT := hidI hT
  have HB1 : Hid (Below w.heap.size w w1) := Below.trans (by repeat (first | with_reducible exact Below.refl _ _ | with_reducible exact HB3.out | with_reducible refine Below.drew ?_ | with_reducible refine below_drewN ?_ _ | with_reducible refine Below.setCell ?_ ?_ _ | with_reducible refine Below.alloc ?_ ?_ _ | with_reducible exact HB2.out | with_reducible exact HB1.out | with_reducible refine Below.trans ?_ (Below.mono hb3 ?_) | with_reducible refine Below.trans ?_ (Below.mono hb5 ?_) | with_reducible refine Below.trans ?_ (Below.mono hb4 ?_) | omega | (simp; omega) | simp)) (hb1.mono (by simp))
  clear hT hb1
  go_wp2_with fail
  go_loopw [4, 5] (fun v i wr => ∃ k : Nat, k ≤ xs.length ∧ i = .int .i64 k ∧ wr.ownsRow w1.heap.size 3 1 v k (((List.range k).map fun j => (ringN xs.length (tableU xs) j : Int)).map (.int .i64)) ∧ Below w1.heap.size w1 wr) (fun _ i _ => xs.length - (intOf i).toNat)
  case atStart => exact ⟨0, by omega, rfl, World.ownsRow_nil _ _ _ _, Below.refl _ _⟩
  case round =>
    obtain ⟨k, hk, rfl, hown, hb⟩ := hrel
    obtain ⟨q, d, hq⟩ := own_slice hown
    subst hq
    have HO := hidI hown
    have HB := hidI hb
    have HT1 := hidI (HT.out.below hb)
    clear hown hb
    by_cases hlt : k < xs.length
    · obtain ⟨r1, r2, r3, r4⟩ := ringN_spec hlt ((reachU xs).refl k hlt)
      go_wp2_with fail
      go_loop [6] (fun i => ∃ x : Nat, x ≤ ringN xs.length (tableU xs) k ∧ i = .int .i64 x) (fun i => xs.length - (intOf i).toNat)
      case atStart => exact ⟨0, by omega, rfl⟩
      case round =>
        obtain ⟨x, hx, rfl⟩ := hrel
        have hxn : x < xs.length := by omega
        obtain ⟨q1, rfl, c1⟩ := HT1.out.cell hlt
        obtain ⟨q2, hq2, c2⟩ := HT1.out.cell hxn
        cases hq2
        obtain ⟨b1, _⟩ := HT1.out.bit hlt hxn
        obtain ⟨b2, _⟩ := HT1.out.bit hxn hlt
        have z1 := lt_of_cell c1
        have g1 : (x : Int) < xs.length := by omega
        have g2 : (k : Int) < xs.length := by omega
        have H3 := hidI r3
        have H4 := hidI r4
        clear r3 r4
        have stay : sameR (tableU xs) k x = false → x + 1 ≤ ringN xs.length (tableU xs) k := fun hf => by
          rcases Nat.lt_or_ge x (ringN xs.length (tableU xs) k) with h | h
          · exact h
          · obtain rfl : x = ringN xs.length (tableU xs) k := by omega
            rw [H3.out] at hf
            cases hf
        have HSt := hidI stay
        clear stay
        cases h1 : tableU xs k x
        · have HS := hidI (HSt.out (by unfold sameR; rw [h1]; rfl))
          rw [h1] at b1
          clear h1
          go_wp2_with fail
          exact ⟨⟨x + 1, HS.out, by go_num⟩, by simp [intOf]; omega⟩
        · cases h2 : tableU xs x k
          · have HS := hidI (HSt.out (by unfold sameR; rw [h2, Bool.and_false]))
            rw [h1] at b1
            rw [h2] at b2
            clear h1 h2
            go_wp2_with fail
            exact ⟨⟨x + 1, HS.out, by go_num⟩, by simp [intOf]; omega⟩
          · have HS : Hid (x = ringN xs.length (tableU xs) k) := by
              show _ = _
              rcases Nat.lt_or_ge x (ringN xs.length (tableU xs) k) with h | h
              · have := H4.out x h
                unfold sameR at this
                rw [h1, h2] at this
                cases this
              · omega
            rw [h1] at b1
            rw [h2] at b2
            clear h1 h2
            go_wp2_with (at_builtin; refine wpList_append_own_at _ rfl _ _ 39 rfl w1.heap.size 3 i1 (.int .i64 0) 1 8 underInts7 k1 k2 k3 k4 rfl (by decide) _ _ _ rfl (HO.out.alloc _) ⟨wr.heap.size, 0, none⟩ 1 1 [.int .i64 x] rfl rfl (cell_one_at _ _ _ _ rfl) (by simp [Value.oneCell']) ?_ ?_ ?_ ?_)
            · unfold maxLen; omega
            · omega
            · have := HB.out.size; simp; omega
            intro v' w3 hown' hgrow _ _
            obtain ⟨g', cap', rfl⟩ := ownsRow_succ' hown'
            have HO3 : Hid (w3.ownsRow w1.heap.size 3 1 (.slice (some ⟨g', 0, none⟩) (k + 1) cap') (k + 1) (((List.range (k + 1)).map fun j => (ringN xs.length (tableU xs) j : Int)).map (.int .i64))) := by
              show World.ownsRow _ _ _ _ _ _ _
              rw [List.range_succ, List.map_append, List.map_append, List.map_singleton, List.map_singleton, ← HS.out, List.map_map]
              exact hown'
            have HB3 : Hid (Below w1.heap.size w1 w3) := by
              refine (HB.out.alloc HB.out.size _).grown hgrow (by have := HB.out.size; simp; omega) (fun kk e => ?_)
              exact (HO.out.lt kk e).1
            clear hown' hgrow
            go_wp2_with fail
            exact ⟨⟨k + 1, by omega, by go_num, HO3.out, HB3.out⟩, by simp [intOf]; omega⟩
    · obtain rfl : k = xs.length := by omega
      go_wp2_with fail
      go_ret
      obtain ⟨p', c', e, hs⟩ := own_ints (xs := ringsL xs.length (tableU xs)) (ringsL_len _ _) HO.out (fun y hy => by
        unfold ringsL at hy
        obtain ⟨j, hj, rfl⟩ := List.mem_map.1 hy
        have hj2 := List.mem_range.1 hj
        have := (ringN_spec hj2 ((reachU xs).refl j hj2)).1
        unfold I64
        omega)
      simp only [Value.slice.injEq] at e
      obtain ⟨rfl, _, _⟩ := e
      exact ⟨⟨_, _, rfl, hs⟩, HB1.out.trans (HB.out.mono (by have := HB1.out.size; omega))⟩

theorem infoBool8 : (Tryd.prog.info? 4).map (fun i => (i.zero, i.size, i.bytes)) = some (some (.bool false), 1, 1) := by kernel_rfl
theorem underBools8 : Tryd.prog.underlying 62 = some (.slice 4) := by kernel_rfl
/-- ready by the first x that may be called -/
def readyTo (E : Nat → Nat → Bool) (r : Nat → Nat) (told : Nat → Bool) (k x : Nat) : Bool := !told k && (List.range x).all fun y => !(E k y && !told y && r y != r k)
theorem readyTo_all (n : Nat) (E : Nat → Nat → Bool) (r : Nat → Nat) (told : Nat → Bool) (k : Nat) : readyTo E r told k n = readyB n E r told k := rfl
theorem readyTo_zero (E : Nat → Nat → Bool) (r : Nat → Nat) (told : Nat → Bool) (k : Nat) : readyTo E r told k 0 = !told k := by simp [readyTo]
theorem readyTo_succ (E : Nat → Nat → Bool) (r : Nat → Nat) (told : Nat → Bool) (k x : Nat) : readyTo E r told k (x + 1) = (readyTo E r told k x && !(E k x && !told x && r x != r k)) := by
  unfold readyTo
  rw [List.range_succ, List.all_append]
  simp [Bool.and_assoc]

/-- an operation that yields its value in every world that meets S is taken first -/
theorem takeW {P : Program} {ops : Array Oper} {Q : Exit → Act → World → Prop} {md : Region.Mode} {S : World → Prop} (i d : Nat) (v : Value) {oi : Oper} {fuel : Nat} {listed : Array Bool} {a : Act} {w : World} (hi : ops[i]? = some oi) (hd : oi.dst = some d)
    (hs : Region.noSelect ops = true) (hf : Region.free md ops listed i = true) (hr : (Region.ready md ops listed).contains i = true)
    (hQ : ∀ c a w, Q (.panic c) (a.put (some d) v) w → Q (.panic c) a w) (hy : YieldsIf P ops S oi v a) (hS : S w)
    (h : wpAnyH P md ops Q S fuel (listed.setIfInBounds i true) (a.put (some d) v) w) : wpAnyH P md ops Q S (fuel + 1) listed a w :=
  wpAnyH_take hi hs hf hr (by rw [hd]; exact hQ) hy hS (by rw [hd]; exact h)
set_option maxRecDepth 100000 in
set_option maxHeartbeats 4000000 in
theorem refOrder_any (xs : List FunL) (gp fp : Option Addr) (gl gc fc : Nat) (w : World) (hl : xs.length ≤ 10) (hF : SliceAt w 4 (FunR w) fp xs) :
    Calls Tryd.prog 33 #[.agg #[.slice gp gl gc, .slice fp xs.length fc]] w fun e w' => (∃ p c, e = .returned (.slice p xs.length c) ∧ SliceAt w' 1 IntR p (intsN (orderU xs))) ∧ Below w.heap.size w w' := by
  obtain ⟨i1, k1, k2, k3, k4⟩ := info_parts infoInt7
  obtain ⟨i2, l1, l2, l3, l4⟩ := info_parts infoBool8
  have hmk := run_make_row 62 4 i2 (.bool false) underBools8 l1 l2 l3 rfl .i64 .i64 xs.length (by rw [l4]; omega) (by omega)
  have HF := hidI hF
  clear hF
  go_enter Tryd.func33, Tryd.ntmps33
  go_wp2_with fail
  refine (refRings_any xs _ _ _ _ _ _ hl (funsMono HF.out (by repeat (first | with_reducible exact Below.refl _ _ | with_reducible exact HB3.out | with_reducible refine Below.drew ?_ | with_reducible refine below_drewN ?_ _ | with_reducible refine Below.setCell ?_ ?_ _ | with_reducible refine Below.alloc ?_ ?_ _ | with_reducible exact HB2.out | with_reducible exact HB1.out | with_reducible refine Below.trans ?_ (Below.mono hb3 ?_) | with_reducible refine Below.trans ?_ (Below.mono hb5 ?_) | with_reducible refine Below.trans ?_ (Below.mono hb4 ?_) | omega | (simp; omega) | simp)))).mono ?_
  rintro e w1 ⟨⟨p, c, rfl, hS⟩, hb1⟩
  have HS := hidI hS
  have HB1 : Hid (Below w.heap.size w w1) := Below.trans (by repeat (first | with_reducible exact Below.refl _ _ | with_reducible exact HB3.out | with_reducible refine Below.drew ?_ | with_reducible refine below_drewN ?_ _ | with_reducible refine Below.setCell ?_ ?_ _ | with_reducible refine Below.alloc ?_ ?_ _ | with_reducible exact HB2.out | with_reducible exact HB1.out | with_reducible refine Below.trans ?_ (Below.mono hb3 ?_) | with_reducible refine Below.trans ?_ (Below.mono hb5 ?_) | with_reducible refine Below.trans ?_ (Below.mono hb4 ?_) | omega | (simp; omega) | simp)) (hb1.mono (by simp))
  have hU : w1.heap[w.heap.size]? = some (.cells #[.slice gp gl gc, .slice fp xs.length fc] 25) := heap_below hb1 (by simp) (heap_here w _)
  have HU := hidI hU
  have hz := (Array.getElem?_eq_some_iff.1 hU).1
  clear hS hb1 hU
  generalize hr : ringN xs.length (tableU xs) = r at *
  have HRe := hidI hr
  have hrg : Hid (∀ j (hj : j < (ringsL xs.length (tableU xs)).length), (ringsL xs.length (tableU xs))[j] = (r j : Int)) := fun j hj => by rw [ringsL_get, hr]
  clear hr
  go_wp2_with fail
  go_loopw [6, 7] (fun v i W => ∃ m : Nat, m ≤ xs.length ∧ i = .int .i64 m ∧ W.ownsRow (w1.heap.size + 1) 3 1 v m ((intsN (orderN xs.length (edgeU xs) r m)).map (.int .i64)) ∧ W.rowIs w1.heap.size 4 xs.length (fun x => .bool ((orderN xs.length (edgeU xs) r m).contains x)) ∧ Below w1.heap.size w1 W) (fun _ i _ => xs.length - (intOf i).toNat)
  case atStart =>
    refine ⟨0, by omega, rfl, World.ownsRow_nil _ _ _ _, (World.rowIs_made w1 (.bool false) xs.length 4).congr fun j _ => by simp [orderN], by repeat (first | with_reducible exact Below.refl _ _ | with_reducible exact HB3.out | with_reducible refine Below.drew ?_ | with_reducible refine below_drewN ?_ _ | with_reducible refine Below.setCell ?_ ?_ _ | with_reducible refine Below.alloc ?_ ?_ _ | with_reducible exact HB2.out | with_reducible exact HB1.out | with_reducible refine Below.trans ?_ (Below.mono hb3 ?_) | with_reducible refine Below.trans ?_ (Below.mono hb5 ?_) | with_reducible refine Below.trans ?_ (Below.mono hb4 ?_) | omega | (simp; omega) | simp)⟩
  case round =>
    obtain ⟨m, hm, rfl, hown, hrow, hb⟩ := hrel
    obtain ⟨q, d, hq⟩ := own_slice hown
    subst hq
    have HL : Hid ((orderN xs.length (edgeU xs) r m).length = m) := by
      show _ = _
      rw [← HRe.out]
      exact (reachU xs).order_len m hm
    obtain ⟨o, hoo⟩ : ∃ o, o = orderN xs.length (edgeU xs) r m := ⟨_, rfl⟩
    obtain ⟨told, hto⟩ : ∃ told : Nat → Bool, told = fun x => o.contains x := ⟨_, rfl⟩
    have HR : Hid (wr.rowIs w1.heap.size 4 xs.length (fun x => .bool (told x))) := by rw [hto, hoo]; exact hrow
    rw [← hoo] at hown HL
    have HOo := hidI hoo
    have HTo := hidI hto
    have HO := hidI hown
    have HB := hidI hb
    clear hown hrow hb hoo hto
    by_cases hlt : m < xs.length
    · obtain ⟨wo, hwo⟩ : ∃ wo : World, wo = wr := ⟨_, rfl⟩
      go_wp2_with fail
      subst hwo
      go_loopw [6, 8] (fun v i wq => ∃ k : Nat, k ≤ xs.length ∧ v = .slice q m d ∧ i = .int .i64 k ∧ (∀ j, j < k → readyB xs.length (edgeU xs) r told j = false) ∧ Below wo.heap.size wo wq) (fun _ i _ => xs.length - (intOf i).toNat)
      case atStart => exact ⟨0, by omega, rfl, rfl, fun j h => by omega, Below.refl _ _⟩
      case round =>
        obtain ⟨k, hk, rfl, rfl, hV, hb⟩ := hrel
        have HV := hidI hV
        have HBq := hidI hb
        have HRq := hidI (rowIs_below HR.out hb)
        have HOq := hidI (ownsRow_below' HO.out hb)
        have hzq : w1.heap.size < wr.heap.size := by have := HR.out.lt; have := hb.size; omega
        clear hV hb
        by_cases hlt2 : k < xs.length
        · have c1 := HRq.out.cell hlt2
          have g1 : (k : Int) < xs.length := by omega
          have g0 : (0 : Int) ≤ (k : Int) := by omega
          obtain ⟨w5, hw5⟩ : ∃ w5 : World, w5 = wr := ⟨_, rfl⟩
          go_wp2_with fail
          subst hw5
          clear c1
          go_loopw [9, 10] (fun v i wq => ∃ x : Nat, x ≤ xs.length ∧ v = .bool (readyTo (edgeU xs) r told k x) ∧ i = .int .i64 x ∧ Below w5.heap.size w5 wq) (fun _ i _ => xs.length - (intOf i).toNat)
          case atStart => exact ⟨0, by omega, by rw [readyTo_zero], rfl, Below.refl _ _⟩
          case round =>
            obtain ⟨x, hx, rfl, rfl, hb⟩ := hrel
            have HBx := hidI hb
            by_cases hlt3 : x < xs.length
            · have hR3 := rowIs_below HRq.out hb
              have HRs : Hid (readyTo (edgeU xs) r told k (x + 1) = (readyTo (edgeU xs) r told k x && !(edgeU xs k x && !told x && r x != r k))) := readyTo_succ _ _ _ _ _
              have hBall : Below w1.heap.size w1 wr := HB.out.trans ((HBq.out.mono HB.out.size).trans (hb.mono (by omega)))
              cases hrt : readyTo (edgeU xs) r told k x
              · rw [hrt] at HRs
                have HQ : Hid (readyTo (edgeU xs) r told k (x + 1) = false) := HRs.out
                clear HRs hrt hR3 hBall hb
                go_wp2_with fail
                go_quiet (fail)
                go_wp2_with fail
                exact ⟨⟨x + 1, by omega, by rw [HQ.out], by go_num, below_drewN HBx.out _⟩, by simp [intOf]; omega⟩
              · have heu : edgeU xs k x = callsB xs[k] (x : Int) := by unfold edgeU; rw [List.getElem?_eq_getElem hlt2]
                obtain ⟨b1, o1, hp1, d1, _⟩ := intGet HS.out hBall (i := x) (by rw [ringsL_len]; exact hlt3)
                obtain ⟨b2, o2, hp2, d2, _⟩ := intGet HS.out hBall (i := k) (by rw [ringsL_len]; exact hlt2)
                subst hp1
                cases hp2
                rw [hrg.out] at d1 d2
                have d3 := hR3.cell hlt3
                have y1 := lt_of_cell d1
                have y3 := hR3.lt
                have hUr := (hBall.block _ hz).trans HU.out
                obtain ⟨hcu, _⟩ := blk hUr
                have hzr : w.heap.size < wr.heap.size := (Array.getElem?_eq_some_iff.1 hUr).1
                have u0 := hcu 0
                have u1 := hcu 1
                have gx1 : (x : Int) < xs.length := by omega
                have gx0 : (0 : Int) ≤ (x : Int) := by omega
                have HCo := hidI (fun W (hW : Below wr.heap.size wr W) => callsOne_any xs gp fp gl gc fc k (x : Int) W hlt2 (by omega) (funsMono HF.out (HB1.out.trans ((hBall.mono (by omega)).trans (hW.mono (by have := HB1.out.size; have := hBall.size; omega))))))
                rw [hrt, heu] at HRs
                have HAll := hidI (fun W (hW : Below wr.heap.size wr W) => (⟨(hW.cell (p := ⟨w.heap.size, 0, none⟩) hzr).trans u0, (hW.cell (p := ⟨w.heap.size, 1, none⟩) hzr).trans u1, (hW.cell (p := ⟨w1.heap.size, x, none⟩) y3).trans d3, (hW.cell (p := ⟨b1, o1 + x, none⟩) y1).trans d1, (hW.cell (p := ⟨b1, o1 + k, none⟩) y1).trans d2⟩ : _ ∧ _ ∧ _ ∧ _ ∧ _))
                clear hcu hrt heu hR3 hUr hBall hb
                cases hcb : callsB xs[k] (x : Int)
                · rw [hcb] at HCo HRs
                  have HQ : Hid (readyTo (edgeU xs) r told k (x + 1) = true) := HRs.out
                  clear hcb HRs d1 d2 d3
                  go_wp2_with fail
                  refine wp_region_held_drew (S := fun w' => w'.cell? ⟨w.heap.size, 0, none⟩ = some (.slice gp gl gc) ∧ w'.cell? ⟨w.heap.size, 1, none⟩ = some (.slice fp xs.length fc) ∧ w'.cell? ⟨w1.heap.size, x, none⟩ = some (.bool (told x)) ∧ w'.cell? ⟨b1, o1 + x, none⟩ = some (.int .i64 (r x)) ∧ w'.cell? ⟨b1, o1 + k, none⟩ = some (.int .i64 (r k))) (by kernel_rfl) (HAll.out _ (by repeat (first | with_reducible exact Below.refl _ _ | with_reducible exact HB3.out | with_reducible refine Below.drew ?_ | with_reducible refine below_drewN ?_ _ | with_reducible refine Below.setCell ?_ ?_ _ | with_reducible refine Below.alloc ?_ ?_ _ | with_reducible exact HB2.out | with_reducible exact HB1.out | with_reducible refine Below.trans ?_ (Below.mono hb3 ?_) | with_reducible refine Below.trans ?_ (Below.mono hb5 ?_) | with_reducible refine Below.trans ?_ (Below.mono hb4 ?_) | omega | (simp; omega) | simp))) (fun hS => ?_)
                  refine takeW 0 38 ?_ rfl rfl (by kernel_rfl) (by kernel_rfl) (by kernel_rfl) (fun _ _ _ h => h) (Or.inl ⟨by rfl, ?_⟩) hS ?_
                  rotate_left
                  · intro w hSw; (try dsimp only at hSw); go_simp; try with_reducible rfl
                  simp only [Act.put, List.setIfInBounds_toArray, List.set_cons_zero, List.set_cons_succ]
                  refine takeW 1 39 ?_ rfl rfl (by kernel_rfl) (by kernel_rfl) (by kernel_rfl) (fun _ _ _ h => h) (Or.inl ⟨by rfl, ?_⟩) hS ?_
                  rotate_left
                  · intro w hSw; (try dsimp only at hSw); go_simp; try with_reducible rfl
                  simp only [Act.put, List.setIfInBounds_toArray, List.set_cons_zero, List.set_cons_succ]
                  refine takeW 2 40 ?_ rfl rfl (by kernel_rfl) (by kernel_rfl) (by kernel_rfl) (fun _ _ _ h => h) (Or.inl ⟨by rfl, ?_⟩) hS ?_
                  rotate_left
                  · intro w hSw; (try dsimp only at hSw); go_simp; try with_reducible rfl
                  simp only [Act.put, List.setIfInBounds_toArray, List.set_cons_zero, List.set_cons_succ]
                  refine takeW 3 41 ?_ rfl rfl (by kernel_rfl) (by kernel_rfl) (by kernel_rfl) (fun _ _ _ h => h) (Or.inl ⟨by rfl, ?_⟩) hS ?_
                  rotate_left
                  · intro w hSw; (try dsimp only at hSw); go_simp; try with_reducible rfl
                  simp only [Act.put, List.setIfInBounds_toArray, List.set_cons_zero, List.set_cons_succ]
                  refine takeW 4 42 ?_ rfl rfl (by kernel_rfl) (by kernel_rfl) (by kernel_rfl) (fun _ _ _ h => h) (Or.inl ⟨by rfl, ?_⟩) hS ?_
                  rotate_left
                  · intro w hSw; (try dsimp only at hSw); go_simp; try with_reducible rfl
                  simp only [Act.put, List.setIfInBounds_toArray, List.set_cons_zero, List.set_cons_succ]
                  refine wpAnyH_ready (rs := [5]) (by kernel_rfl) (by simp) ?_
                  refine AllReadyH.cons rfl (fun K hK => ?_) AllReadyH.nil
                  go_simp
                  refine (HCo.out _ (by repeat (first | with_reducible exact Below.refl _ _ | with_reducible exact HB3.out | with_reducible refine Below.drew ?_ | with_reducible refine below_drewN ?_ _ | with_reducible refine Below.setCell ?_ ?_ _ | with_reducible refine Below.alloc ?_ ?_ _ | with_reducible exact HB2.out | with_reducible exact HB1.out | with_reducible refine Below.trans ?_ (Below.mono hb3 ?_) | with_reducible refine Below.trans ?_ (Below.mono hb5 ?_) | with_reducible refine Below.trans ?_ (Below.mono hb4 ?_) | omega | (simp; omega) | simp))).mono ?_
                  rintro e w4 ⟨rfl, hb4⟩
                  have hN4 : Below wr.heap.size wr w4 := Below.trans (by repeat (first | with_reducible exact Below.refl _ _ | with_reducible exact HB3.out | with_reducible refine Below.drew ?_ | with_reducible refine below_drewN ?_ _ | with_reducible refine Below.setCell ?_ ?_ _ | with_reducible refine Below.alloc ?_ ?_ _ | with_reducible exact HB2.out | with_reducible exact HB1.out | with_reducible refine Below.trans ?_ (Below.mono hb3 ?_) | with_reducible refine Below.trans ?_ (Below.mono hb5 ?_) | with_reducible refine Below.trans ?_ (Below.mono hb4 ?_) | omega | (simp; omega) | simp)) (hb4.mono (by first | omega | (simp; done) | (simp; omega)))
                  refine hK.out _ _ (HAll.out _ hN4) (fun hS => ?_)
                  clear hK K
                  try simp only [Act.put, List.setIfInBounds_toArray, List.set_cons_zero, List.set_cons_succ]
                  refine takeW 6 44 ?_ rfl rfl (by kernel_rfl) (by kernel_rfl) (by kernel_rfl) (fun _ _ _ h => h) (Or.inl ⟨by rfl, ?_⟩) hS ?_
                  rotate_left
                  · intro w hSw; (try dsimp only at hSw); go_simp; try with_reducible rfl
                  simp only [Act.put, List.setIfInBounds_toArray, List.set_cons_zero, List.set_cons_succ]
                  refine takeW 7 45 ?_ rfl rfl (by kernel_rfl) (by kernel_rfl) (by kernel_rfl) (fun _ _ _ h => h) (Or.inl ⟨by rfl, ?_⟩) hS ?_
                  rotate_left
                  · intro w hSw; (try dsimp only at hSw); go_simp; try with_reducible rfl
                  simp only [Act.put, List.setIfInBounds_toArray, List.set_cons_zero, List.set_cons_succ]
                  refine takeW 8 46 undef rfl rfl (by kernel_rfl) (by kernel_rfl) (by kernel_rfl) (fun _ _ _ h => h) (Or.inr ⟨by rfl, rfl⟩) hS ?_
                  simp only [Act.put, List.setIfInBounds_toArray, List.set_cons_zero, List.set_cons_succ]
                  refine takeW 9 47 undef rfl rfl (by kernel_rfl) (by kernel_rfl) (by kernel_rfl) (fun _ _ _ h => h) (Or.inr ⟨by rfl, rfl⟩) hS ?_
                  simp only [Act.put, List.setIfInBounds_toArray, List.set_cons_zero, List.set_cons_succ]
                  refine takeW 10 48 undef rfl rfl (by kernel_rfl) (by kernel_rfl) (by kernel_rfl) (fun _ _ _ h => h) (Or.inr ⟨by rfl, rfl⟩) hS ?_
                  simp only [Act.put, List.setIfInBounds_toArray, List.set_cons_zero, List.set_cons_succ]
                  refine takeW 11 49 undef rfl rfl (by kernel_rfl) (by kernel_rfl) (by kernel_rfl) (fun _ _ _ h => h) (Or.inr ⟨by rfl, rfl⟩) hS ?_
                  simp only [Act.put, List.setIfInBounds_toArray, List.set_cons_zero, List.set_cons_succ]
                  refine takeW 12 50 undef rfl rfl (by kernel_rfl) (by kernel_rfl) (by kernel_rfl) (fun _ _ _ h => h) (Or.inr ⟨by rfl, rfl⟩) hS ?_
                  simp only [Act.put, List.setIfInBounds_toArray, List.set_cons_zero, List.set_cons_succ]
                  refine takeW 13 51 ?_ rfl rfl (by kernel_rfl) (by kernel_rfl) (by kernel_rfl) (fun _ _ _ h => h) (Or.inl ⟨by rfl, ?_⟩) hS ?_
                  rotate_left
                  · intro w hSw; (try dsimp only at hSw); go_simp; try with_reducible rfl
                  simp only [Act.put, List.setIfInBounds_toArray, List.set_cons_zero, List.set_cons_succ]
                  refine takeW 14 52 ?_ rfl rfl (by kernel_rfl) (by kernel_rfl) (by kernel_rfl) (fun _ _ _ h => h) (Or.inl ⟨by rfl, ?_⟩) hS ?_
                  rotate_left
                  · intro w hSw; (try dsimp only at hSw); go_simp; try with_reducible rfl
                  simp only [Act.put, List.setIfInBounds_toArray, List.set_cons_zero, List.set_cons_succ]
                  refine takeW 15 53 undef rfl rfl (by kernel_rfl) (by kernel_rfl) (by kernel_rfl) (fun _ _ _ h => h) (Or.inr ⟨by rfl, rfl⟩) hS ?_
                  simp only [Act.put, List.setIfInBounds_toArray, List.set_cons_zero, List.set_cons_succ]
                  refine takeW 16 54 undef rfl rfl (by kernel_rfl) (by kernel_rfl) (by kernel_rfl) (fun _ _ _ h => h) (Or.inr ⟨by rfl, rfl⟩) hS ?_
                  simp only [Act.put, List.setIfInBounds_toArray, List.set_cons_zero, List.set_cons_succ]
                  refine takeW 17 55 undef rfl rfl (by kernel_rfl) (by kernel_rfl) (by kernel_rfl) (fun _ _ _ h => h) (Or.inr ⟨by rfl, rfl⟩) hS ?_
                  simp only [Act.put, List.setIfInBounds_toArray, List.set_cons_zero, List.set_cons_succ]
                  refine takeW 18 56 undef rfl rfl (by kernel_rfl) (by kernel_rfl) (by kernel_rfl) (fun _ _ _ h => h) (Or.inr ⟨by rfl, rfl⟩) hS ?_
                  simp only [Act.put, List.setIfInBounds_toArray, List.set_cons_zero, List.set_cons_succ]
                  refine takeW 19 57 undef rfl rfl (by kernel_rfl) (by kernel_rfl) (by kernel_rfl) (fun _ _ _ h => h) (Or.inr ⟨by rfl, rfl⟩) hS ?_
                  simp only [Act.put, List.setIfInBounds_toArray, List.set_cons_zero, List.set_cons_succ]
                  refine takeW 20 58 undef rfl rfl (by kernel_rfl) (by kernel_rfl) (by kernel_rfl) (fun _ _ _ h => h) (Or.inr ⟨by rfl, rfl⟩) hS ?_
                  simp only [Act.put, List.setIfInBounds_toArray, List.set_cons_zero, List.set_cons_succ]
                  refine takeW 21 59 undef rfl rfl (by kernel_rfl) (by kernel_rfl) (by kernel_rfl) (fun _ _ _ h => h) (Or.inr ⟨by rfl, rfl⟩) hS ?_
                  simp only [Act.put, List.setIfInBounds_toArray, List.set_cons_zero, List.set_cons_succ]
                  refine takeW 22 60 undef rfl rfl (by kernel_rfl) (by kernel_rfl) (by kernel_rfl) (fun _ _ _ h => h) (Or.inr ⟨by rfl, rfl⟩) hS ?_
                  simp only [Act.put, List.setIfInBounds_toArray, List.set_cons_zero, List.set_cons_succ]
                  refine takeW 23 61 undef rfl rfl (by kernel_rfl) (by kernel_rfl) (by kernel_rfl) (fun _ _ _ h => h) (Or.inr ⟨by rfl, rfl⟩) hS ?_
                  simp only [Act.put, List.setIfInBounds_toArray, List.set_cons_zero, List.set_cons_succ]
                  refine takeW 24 62 ?_ rfl rfl (by kernel_rfl) (by kernel_rfl) (by kernel_rfl) (fun _ _ _ h => h) (Or.inl ⟨by rfl, ?_⟩) hS ?_
                  rotate_left
                  · intro w hSw; (try dsimp only at hSw); go_simp; try with_reducible rfl
                  simp only [Act.put, List.setIfInBounds_toArray, List.set_cons_zero, List.set_cons_succ]
                  refine wpAnyH_done (by kernel_rfl) ?_ _
                  go_wp2_with fail
                  exact ⟨⟨x + 1, by omega, by rw [HQ.out], by go_num, HBx.out.trans (hN4.mono HBx.out.size)⟩, by simp [intOf]; omega⟩
                · rw [hcb] at HCo HRs
                  clear hcb d1 d2 d3
                  cases hto : told x
                  · rw [hto] at HAll HRs
                    cases hne : (r x != r k)
                    · rw [hne] at HRs
                      have HQ : Hid (readyTo (edgeU xs) r told k (x + 1) = true) := HRs.out
                      have hq : ((r x : Int) != (r k : Int)) = false := by simp at hne ⊢; omega
                      clear HRs hto hne
                      go_wp2_with fail
                      refine wp_region_held_drew (S := fun w' => w'.cell? ⟨w.heap.size, 0, none⟩ = some (.slice gp gl gc) ∧ w'.cell? ⟨w.heap.size, 1, none⟩ = some (.slice fp xs.length fc) ∧ w'.cell? ⟨w1.heap.size, x, none⟩ = some (.bool false) ∧ w'.cell? ⟨b1, o1 + x, none⟩ = some (.int .i64 (r x)) ∧ w'.cell? ⟨b1, o1 + k, none⟩ = some (.int .i64 (r k))) (by kernel_rfl) (HAll.out _ (by repeat (first | with_reducible exact Below.refl _ _ | with_reducible exact HB3.out | with_reducible refine Below.drew ?_ | with_reducible refine below_drewN ?_ _ | with_reducible refine Below.setCell ?_ ?_ _ | with_reducible refine Below.alloc ?_ ?_ _ | with_reducible exact HB2.out | with_reducible exact HB1.out | with_reducible refine Below.trans ?_ (Below.mono hb3 ?_) | with_reducible refine Below.trans ?_ (Below.mono hb5 ?_) | with_reducible refine Below.trans ?_ (Below.mono hb4 ?_) | omega | (simp; omega) | simp))) (fun hS => ?_)
                      refine takeW 0 38 ?_ rfl rfl (by kernel_rfl) (by kernel_rfl) (by kernel_rfl) (fun _ _ _ h => h) (Or.inl ⟨by rfl, ?_⟩) hS ?_
                      rotate_left
                      · intro w hSw; (try dsimp only at hSw); go_simp; try with_reducible rfl
                      simp only [Act.put, List.setIfInBounds_toArray, List.set_cons_zero, List.set_cons_succ]
                      refine takeW 1 39 ?_ rfl rfl (by kernel_rfl) (by kernel_rfl) (by kernel_rfl) (fun _ _ _ h => h) (Or.inl ⟨by rfl, ?_⟩) hS ?_
                      rotate_left
                      · intro w hSw; (try dsimp only at hSw); go_simp; try with_reducible rfl
                      simp only [Act.put, List.setIfInBounds_toArray, List.set_cons_zero, List.set_cons_succ]
                      refine takeW 2 40 ?_ rfl rfl (by kernel_rfl) (by kernel_rfl) (by kernel_rfl) (fun _ _ _ h => h) (Or.inl ⟨by rfl, ?_⟩) hS ?_
                      rotate_left
                      · intro w hSw; (try dsimp only at hSw); go_simp; try with_reducible rfl
                      simp only [Act.put, List.setIfInBounds_toArray, List.set_cons_zero, List.set_cons_succ]
                      refine takeW 3 41 ?_ rfl rfl (by kernel_rfl) (by kernel_rfl) (by kernel_rfl) (fun _ _ _ h => h) (Or.inl ⟨by rfl, ?_⟩) hS ?_
                      rotate_left
                      · intro w hSw; (try dsimp only at hSw); go_simp; try with_reducible rfl
                      simp only [Act.put, List.setIfInBounds_toArray, List.set_cons_zero, List.set_cons_succ]
                      refine takeW 4 42 ?_ rfl rfl (by kernel_rfl) (by kernel_rfl) (by kernel_rfl) (fun _ _ _ h => h) (Or.inl ⟨by rfl, ?_⟩) hS ?_
                      rotate_left
                      · intro w hSw; (try dsimp only at hSw); go_simp; try with_reducible rfl
                      simp only [Act.put, List.setIfInBounds_toArray, List.set_cons_zero, List.set_cons_succ]
                      refine wpAnyH_ready (rs := [5]) (by kernel_rfl) (by simp) ?_
                      refine AllReadyH.cons rfl (fun K hK => ?_) AllReadyH.nil
                      go_simp
                      refine (HCo.out _ (by repeat (first | with_reducible exact Below.refl _ _ | with_reducible exact HB3.out | with_reducible refine Below.drew ?_ | with_reducible refine below_drewN ?_ _ | with_reducible refine Below.setCell ?_ ?_ _ | with_reducible refine Below.alloc ?_ ?_ _ | with_reducible exact HB2.out | with_reducible exact HB1.out | with_reducible refine Below.trans ?_ (Below.mono hb3 ?_) | with_reducible refine Below.trans ?_ (Below.mono hb5 ?_) | with_reducible refine Below.trans ?_ (Below.mono hb4 ?_) | omega | (simp; omega) | simp))).mono ?_
                      rintro e w4 ⟨rfl, hb4⟩
                      have hN4 : Below wr.heap.size wr w4 := Below.trans (by repeat (first | with_reducible exact Below.refl _ _ | with_reducible exact HB3.out | with_reducible refine Below.drew ?_ | with_reducible refine below_drewN ?_ _ | with_reducible refine Below.setCell ?_ ?_ _ | with_reducible refine Below.alloc ?_ ?_ _ | with_reducible exact HB2.out | with_reducible exact HB1.out | with_reducible refine Below.trans ?_ (Below.mono hb3 ?_) | with_reducible refine Below.trans ?_ (Below.mono hb5 ?_) | with_reducible refine Below.trans ?_ (Below.mono hb4 ?_) | omega | (simp; omega) | simp)) (hb4.mono (by first | omega | (simp; done) | (simp; omega)))
                      refine hK.out _ _ (HAll.out _ hN4) (fun hS => ?_)
                      clear hK K
                      try simp only [Act.put, List.setIfInBounds_toArray, List.set_cons_zero, List.set_cons_succ]
                      refine takeW 6 44 ?_ rfl rfl (by kernel_rfl) (by kernel_rfl) (by kernel_rfl) (fun _ _ _ h => h) (Or.inl ⟨by rfl, ?_⟩) hS ?_
                      rotate_left
                      · intro w hSw; (try dsimp only at hSw); go_simp; try with_reducible rfl
                      simp only [Act.put, List.setIfInBounds_toArray, List.set_cons_zero, List.set_cons_succ]
                      refine takeW 7 45 ?_ rfl rfl (by kernel_rfl) (by kernel_rfl) (by kernel_rfl) (fun _ _ _ h => h) (Or.inl ⟨by rfl, ?_⟩) hS ?_
                      rotate_left
                      · intro w hSw; (try dsimp only at hSw); go_simp; try with_reducible rfl
                      simp only [Act.put, List.setIfInBounds_toArray, List.set_cons_zero, List.set_cons_succ]
                      refine takeW 8 46 ?_ rfl rfl (by kernel_rfl) (by kernel_rfl) (by kernel_rfl) (fun _ _ _ h => h) (Or.inl ⟨by rfl, ?_⟩) hS ?_
                      rotate_left
                      · intro w hSw; (try dsimp only at hSw); go_simp; try with_reducible rfl
                      simp only [Act.put, List.setIfInBounds_toArray, List.set_cons_zero, List.set_cons_succ]
                      refine takeW 9 47 ?_ rfl rfl (by kernel_rfl) (by kernel_rfl) (by kernel_rfl) (fun _ _ _ h => h) (Or.inl ⟨by rfl, ?_⟩) hS ?_
                      rotate_left
                      · intro w hSw; (try dsimp only at hSw); go_simp; try with_reducible rfl
                      simp only [Act.put, List.setIfInBounds_toArray, List.set_cons_zero, List.set_cons_succ]
                      refine takeW 10 48 ?_ rfl rfl (by kernel_rfl) (by kernel_rfl) (by kernel_rfl) (fun _ _ _ h => h) (Or.inl ⟨by rfl, ?_⟩) hS ?_
                      rotate_left
                      · intro w hSw; (try dsimp only at hSw); go_simp; try with_reducible rfl
                      simp only [Act.put, List.setIfInBounds_toArray, List.set_cons_zero, List.set_cons_succ]
                      refine takeW 11 49 ?_ rfl rfl (by kernel_rfl) (by kernel_rfl) (by kernel_rfl) (fun _ _ _ h => h) (Or.inl ⟨by rfl, ?_⟩) hS ?_
                      rotate_left
                      · intro w hSw; (try dsimp only at hSw); go_simp; try with_reducible rfl
                      simp only [Act.put, List.setIfInBounds_toArray, List.set_cons_zero, List.set_cons_succ]
                      refine takeW 12 50 ?_ rfl rfl (by kernel_rfl) (by kernel_rfl) (by kernel_rfl) (fun _ _ _ h => h) (Or.inl ⟨by rfl, ?_⟩) hS ?_
                      rotate_left
                      · intro w hSw; (try dsimp only at hSw); go_simp; try with_reducible rfl
                      simp only [Act.put, List.setIfInBounds_toArray, List.set_cons_zero, List.set_cons_succ]
                      refine takeW 13 51 ?_ rfl rfl (by kernel_rfl) (by kernel_rfl) (by kernel_rfl) (fun _ _ _ h => h) (Or.inl ⟨by rfl, ?_⟩) hS ?_
                      rotate_left
                      · intro w hSw; (try dsimp only at hSw); go_simp; try with_reducible rfl
                      simp only [Act.put, List.setIfInBounds_toArray, List.set_cons_zero, List.set_cons_succ]
                      refine takeW 14 52 ?_ rfl rfl (by kernel_rfl) (by kernel_rfl) (by kernel_rfl) (fun _ _ _ h => h) (Or.inl ⟨by rfl, ?_⟩) hS ?_
                      rotate_left
                      · intro w hSw; (try dsimp only at hSw); go_simp; try with_reducible rfl
                      simp only [Act.put, List.setIfInBounds_toArray, List.set_cons_zero, List.set_cons_succ]
                      refine takeW 15 53 ?_ rfl rfl (by kernel_rfl) (by kernel_rfl) (by kernel_rfl) (fun _ _ _ h => h) (Or.inl ⟨by rfl, ?_⟩) hS ?_
                      rotate_left
                      · intro w hSw; (try dsimp only at hSw); go_simp; try with_reducible rfl
                      simp only [Act.put, List.setIfInBounds_toArray, List.set_cons_zero, List.set_cons_succ]
                      refine takeW 16 54 ?_ rfl rfl (by kernel_rfl) (by kernel_rfl) (by kernel_rfl) (fun _ _ _ h => h) (Or.inl ⟨by rfl, ?_⟩) hS ?_
                      rotate_left
                      · intro w hSw; (try dsimp only at hSw); go_simp; try with_reducible rfl
                      simp only [Act.put, List.setIfInBounds_toArray, List.set_cons_zero, List.set_cons_succ]
                      refine takeW 17 55 ?_ rfl rfl (by kernel_rfl) (by kernel_rfl) (by kernel_rfl) (fun _ _ _ h => h) (Or.inl ⟨by rfl, ?_⟩) hS ?_
                      rotate_left
                      · intro w hSw; (try dsimp only at hSw); go_simp; try with_reducible rfl
                      simp only [Act.put, List.setIfInBounds_toArray, List.set_cons_zero, List.set_cons_succ]
                      refine takeW 18 56 ?_ rfl rfl (by kernel_rfl) (by kernel_rfl) (by kernel_rfl) (fun _ _ _ h => h) (Or.inl ⟨by rfl, ?_⟩) hS ?_
                      rotate_left
                      · intro w hSw; (try dsimp only at hSw); go_simp; try with_reducible rfl
                      simp only [Act.put, List.setIfInBounds_toArray, List.set_cons_zero, List.set_cons_succ]
                      refine takeW 19 57 ?_ rfl rfl (by kernel_rfl) (by kernel_rfl) (by kernel_rfl) (fun _ _ _ h => h) (Or.inl ⟨by rfl, ?_⟩) hS ?_
                      rotate_left
                      · intro w hSw; (try dsimp only at hSw); go_simp; try with_reducible rfl
                      simp only [Act.put, List.setIfInBounds_toArray, List.set_cons_zero, List.set_cons_succ]
                      refine takeW 20 58 ?_ rfl rfl (by kernel_rfl) (by kernel_rfl) (by kernel_rfl) (fun _ _ _ h => h) (Or.inl ⟨by rfl, ?_⟩) hS ?_
                      rotate_left
                      · intro w hSw; (try dsimp only at hSw); go_simp; try with_reducible rfl
                      simp only [Act.put, List.setIfInBounds_toArray, List.set_cons_zero, List.set_cons_succ]
                      refine takeW 21 59 ?_ rfl rfl (by kernel_rfl) (by kernel_rfl) (by kernel_rfl) (fun _ _ _ h => h) (Or.inl ⟨by rfl, ?_⟩) hS ?_
                      rotate_left
                      · intro w hSw; (try dsimp only at hSw); go_simp; try with_reducible rfl
                      simp only [Act.put, List.setIfInBounds_toArray, List.set_cons_zero, List.set_cons_succ]
                      refine takeW 22 60 ?_ rfl rfl (by kernel_rfl) (by kernel_rfl) (by kernel_rfl) (fun _ _ _ h => h) (Or.inl ⟨by rfl, ?_⟩) hS ?_
                      rotate_left
                      · intro w hSw; (try dsimp only at hSw); go_simp; try with_reducible rfl
                      simp only [Act.put, List.setIfInBounds_toArray, List.set_cons_zero, List.set_cons_succ]
                      refine takeW 23 61 ?_ rfl rfl (by kernel_rfl) (by kernel_rfl) (by kernel_rfl) (fun _ _ _ h => h) (Or.inl ⟨by rfl, ?_⟩) hS ?_
                      rotate_left
                      · intro w hSw; (try dsimp only at hSw); go_simp; try with_reducible rfl
                      simp only [Act.put, List.setIfInBounds_toArray, List.set_cons_zero, List.set_cons_succ]
                      refine takeW 24 62 ?_ rfl rfl (by kernel_rfl) (by kernel_rfl) (by kernel_rfl) (fun _ _ _ h => h) (Or.inl ⟨by rfl, ?_⟩) hS ?_
                      rotate_left
                      · intro w hSw; (try dsimp only at hSw); go_simp; try with_reducible rfl
                      simp only [Act.put, List.setIfInBounds_toArray, List.set_cons_zero, List.set_cons_succ]
                      refine wpAnyH_done (by kernel_rfl) ?_ _
                      go_wp2_with fail
                      exact ⟨⟨x + 1, by omega, by rw [HQ.out], by go_num, HBx.out.trans (hN4.mono HBx.out.size)⟩, by simp [intOf]; omega⟩
                    · rw [hne] at HRs
                      have HQ : Hid (readyTo (edgeU xs) r told k (x + 1) = false) := HRs.out
                      have hq : ((r x : Int) != (r k : Int)) = true := by simp at hne ⊢; omega
                      clear HRs hto hne
                      go_wp2_with fail
                      refine wp_region_held_drew (S := fun w' => w'.cell? ⟨w.heap.size, 0, none⟩ = some (.slice gp gl gc) ∧ w'.cell? ⟨w.heap.size, 1, none⟩ = some (.slice fp xs.length fc) ∧ w'.cell? ⟨w1.heap.size, x, none⟩ = some (.bool false) ∧ w'.cell? ⟨b1, o1 + x, none⟩ = some (.int .i64 (r x)) ∧ w'.cell? ⟨b1, o1 + k, none⟩ = some (.int .i64 (r k))) (by kernel_rfl) (HAll.out _ (by repeat (first | with_reducible exact Below.refl _ _ | with_reducible exact HB3.out | with_reducible refine Below.drew ?_ | with_reducible refine below_drewN ?_ _ | with_reducible refine Below.setCell ?_ ?_ _ | with_reducible refine Below.alloc ?_ ?_ _ | with_reducible exact HB2.out | with_reducible exact HB1.out | with_reducible refine Below.trans ?_ (Below.mono hb3 ?_) | with_reducible refine Below.trans ?_ (Below.mono hb5 ?_) | with_reducible refine Below.trans ?_ (Below.mono hb4 ?_) | omega | (simp; omega) | simp))) (fun hS => ?_)
                      refine takeW 0 38 ?_ rfl rfl (by kernel_rfl) (by kernel_rfl) (by kernel_rfl) (fun _ _ _ h => h) (Or.inl ⟨by rfl, ?_⟩) hS ?_
                      rotate_left
                      · intro w hSw; (try dsimp only at hSw); go_simp; try with_reducible rfl
                      simp only [Act.put, List.setIfInBounds_toArray, List.set_cons_zero, List.set_cons_succ]
                      refine takeW 1 39 ?_ rfl rfl (by kernel_rfl) (by kernel_rfl) (by kernel_rfl) (fun _ _ _ h => h) (Or.inl ⟨by rfl, ?_⟩) hS ?_
                      rotate_left
                      · intro w hSw; (try dsimp only at hSw); go_simp; try with_reducible rfl
                      simp only [Act.put, List.setIfInBounds_toArray, List.set_cons_zero, List.set_cons_succ]
                      refine takeW 2 40 ?_ rfl rfl (by kernel_rfl) (by kernel_rfl) (by kernel_rfl) (fun _ _ _ h => h) (Or.inl ⟨by rfl, ?_⟩) hS ?_
                      rotate_left
                      · intro w hSw; (try dsimp only at hSw); go_simp; try with_reducible rfl
                      simp only [Act.put, List.setIfInBounds_toArray, List.set_cons_zero, List.set_cons_succ]
                      refine takeW 3 41 ?_ rfl rfl (by kernel_rfl) (by kernel_rfl) (by kernel_rfl) (fun _ _ _ h => h) (Or.inl ⟨by rfl, ?_⟩) hS ?_
                      rotate_left
                      · intro w hSw; (try dsimp only at hSw); go_simp; try with_reducible rfl
                      simp only [Act.put, List.setIfInBounds_toArray, List.set_cons_zero, List.set_cons_succ]
                      refine takeW 4 42 ?_ rfl rfl (by kernel_rfl) (by kernel_rfl) (by kernel_rfl) (fun _ _ _ h => h) (Or.inl ⟨by rfl, ?_⟩) hS ?_
                      rotate_left
                      · intro w hSw; (try dsimp only at hSw); go_simp; try with_reducible rfl
                      simp only [Act.put, List.setIfInBounds_toArray, List.set_cons_zero, List.set_cons_succ]
                      refine wpAnyH_ready (rs := [5]) (by kernel_rfl) (by simp) ?_
                      refine AllReadyH.cons rfl (fun K hK => ?_) AllReadyH.nil
                      go_simp
                      refine (HCo.out _ (by repeat (first | with_reducible exact Below.refl _ _ | with_reducible exact HB3.out | with_reducible refine Below.drew ?_ | with_reducible refine below_drewN ?_ _ | with_reducible refine Below.setCell ?_ ?_ _ | with_reducible refine Below.alloc ?_ ?_ _ | with_reducible exact HB2.out | with_reducible exact HB1.out | with_reducible refine Below.trans ?_ (Below.mono hb3 ?_) | with_reducible refine Below.trans ?_ (Below.mono hb5 ?_) | with_reducible refine Below.trans ?_ (Below.mono hb4 ?_) | omega | (simp; omega) | simp))).mono ?_
                      rintro e w4 ⟨rfl, hb4⟩
                      have hN4 : Below wr.heap.size wr w4 := Below.trans (by repeat (first | with_reducible exact Below.refl _ _ | with_reducible exact HB3.out | with_reducible refine Below.drew ?_ | with_reducible refine below_drewN ?_ _ | with_reducible refine Below.setCell ?_ ?_ _ | with_reducible refine Below.alloc ?_ ?_ _ | with_reducible exact HB2.out | with_reducible exact HB1.out | with_reducible refine Below.trans ?_ (Below.mono hb3 ?_) | with_reducible refine Below.trans ?_ (Below.mono hb5 ?_) | with_reducible refine Below.trans ?_ (Below.mono hb4 ?_) | omega | (simp; omega) | simp)) (hb4.mono (by first | omega | (simp; done) | (simp; omega)))
                      refine hK.out _ _ (HAll.out _ hN4) (fun hS => ?_)
                      clear hK K
                      try simp only [Act.put, List.setIfInBounds_toArray, List.set_cons_zero, List.set_cons_succ]
                      refine takeW 6 44 ?_ rfl rfl (by kernel_rfl) (by kernel_rfl) (by kernel_rfl) (fun _ _ _ h => h) (Or.inl ⟨by rfl, ?_⟩) hS ?_
                      rotate_left
                      · intro w hSw; (try dsimp only at hSw); go_simp; try with_reducible rfl
                      simp only [Act.put, List.setIfInBounds_toArray, List.set_cons_zero, List.set_cons_succ]
                      refine takeW 7 45 ?_ rfl rfl (by kernel_rfl) (by kernel_rfl) (by kernel_rfl) (fun _ _ _ h => h) (Or.inl ⟨by rfl, ?_⟩) hS ?_
                      rotate_left
                      · intro w hSw; (try dsimp only at hSw); go_simp; try with_reducible rfl
                      simp only [Act.put, List.setIfInBounds_toArray, List.set_cons_zero, List.set_cons_succ]
                      refine takeW 8 46 ?_ rfl rfl (by kernel_rfl) (by kernel_rfl) (by kernel_rfl) (fun _ _ _ h => h) (Or.inl ⟨by rfl, ?_⟩) hS ?_
                      rotate_left
                      · intro w hSw; (try dsimp only at hSw); go_simp; try with_reducible rfl
                      simp only [Act.put, List.setIfInBounds_toArray, List.set_cons_zero, List.set_cons_succ]
                      refine takeW 9 47 ?_ rfl rfl (by kernel_rfl) (by kernel_rfl) (by kernel_rfl) (fun _ _ _ h => h) (Or.inl ⟨by rfl, ?_⟩) hS ?_
                      rotate_left
                      · intro w hSw; (try dsimp only at hSw); go_simp; try with_reducible rfl
                      simp only [Act.put, List.setIfInBounds_toArray, List.set_cons_zero, List.set_cons_succ]
                      refine takeW 10 48 ?_ rfl rfl (by kernel_rfl) (by kernel_rfl) (by kernel_rfl) (fun _ _ _ h => h) (Or.inl ⟨by rfl, ?_⟩) hS ?_
                      rotate_left
                      · intro w hSw; (try dsimp only at hSw); go_simp; try with_reducible rfl
                      simp only [Act.put, List.setIfInBounds_toArray, List.set_cons_zero, List.set_cons_succ]
                      refine takeW 11 49 ?_ rfl rfl (by kernel_rfl) (by kernel_rfl) (by kernel_rfl) (fun _ _ _ h => h) (Or.inl ⟨by rfl, ?_⟩) hS ?_
                      rotate_left
                      · intro w hSw; (try dsimp only at hSw); go_simp; try with_reducible rfl
                      simp only [Act.put, List.setIfInBounds_toArray, List.set_cons_zero, List.set_cons_succ]
                      refine takeW 12 50 ?_ rfl rfl (by kernel_rfl) (by kernel_rfl) (by kernel_rfl) (fun _ _ _ h => h) (Or.inl ⟨by rfl, ?_⟩) hS ?_
                      rotate_left
                      · intro w hSw; (try dsimp only at hSw); go_simp; try with_reducible rfl
                      simp only [Act.put, List.setIfInBounds_toArray, List.set_cons_zero, List.set_cons_succ]
                      refine takeW 13 51 ?_ rfl rfl (by kernel_rfl) (by kernel_rfl) (by kernel_rfl) (fun _ _ _ h => h) (Or.inl ⟨by rfl, ?_⟩) hS ?_
                      rotate_left
                      · intro w hSw; (try dsimp only at hSw); go_simp; try with_reducible rfl
                      simp only [Act.put, List.setIfInBounds_toArray, List.set_cons_zero, List.set_cons_succ]
                      refine takeW 14 52 ?_ rfl rfl (by kernel_rfl) (by kernel_rfl) (by kernel_rfl) (fun _ _ _ h => h) (Or.inl ⟨by rfl, ?_⟩) hS ?_
                      rotate_left
                      · intro w hSw; (try dsimp only at hSw); go_simp; try with_reducible rfl
                      simp only [Act.put, List.setIfInBounds_toArray, List.set_cons_zero, List.set_cons_succ]
                      refine takeW 15 53 ?_ rfl rfl (by kernel_rfl) (by kernel_rfl) (by kernel_rfl) (fun _ _ _ h => h) (Or.inl ⟨by rfl, ?_⟩) hS ?_
                      rotate_left
                      · intro w hSw; (try dsimp only at hSw); go_simp; try with_reducible rfl
                      simp only [Act.put, List.setIfInBounds_toArray, List.set_cons_zero, List.set_cons_succ]
                      refine takeW 16 54 ?_ rfl rfl (by kernel_rfl) (by kernel_rfl) (by kernel_rfl) (fun _ _ _ h => h) (Or.inl ⟨by rfl, ?_⟩) hS ?_
                      rotate_left
                      · intro w hSw; (try dsimp only at hSw); go_simp; try with_reducible rfl
                      simp only [Act.put, List.setIfInBounds_toArray, List.set_cons_zero, List.set_cons_succ]
                      refine takeW 17 55 ?_ rfl rfl (by kernel_rfl) (by kernel_rfl) (by kernel_rfl) (fun _ _ _ h => h) (Or.inl ⟨by rfl, ?_⟩) hS ?_
                      rotate_left
                      · intro w hSw; (try dsimp only at hSw); go_simp; try with_reducible rfl
                      simp only [Act.put, List.setIfInBounds_toArray, List.set_cons_zero, List.set_cons_succ]
                      refine takeW 18 56 ?_ rfl rfl (by kernel_rfl) (by kernel_rfl) (by kernel_rfl) (fun _ _ _ h => h) (Or.inl ⟨by rfl, ?_⟩) hS ?_
                      rotate_left
                      · intro w hSw; (try dsimp only at hSw); go_simp; try with_reducible rfl
                      simp only [Act.put, List.setIfInBounds_toArray, List.set_cons_zero, List.set_cons_succ]
                      refine takeW 19 57 ?_ rfl rfl (by kernel_rfl) (by kernel_rfl) (by kernel_rfl) (fun _ _ _ h => h) (Or.inl ⟨by rfl, ?_⟩) hS ?_
                      rotate_left
                      · intro w hSw; (try dsimp only at hSw); go_simp; try with_reducible rfl
                      simp only [Act.put, List.setIfInBounds_toArray, List.set_cons_zero, List.set_cons_succ]
                      refine takeW 20 58 ?_ rfl rfl (by kernel_rfl) (by kernel_rfl) (by kernel_rfl) (fun _ _ _ h => h) (Or.inl ⟨by rfl, ?_⟩) hS ?_
                      rotate_left
                      · intro w hSw; (try dsimp only at hSw); go_simp; try with_reducible rfl
                      simp only [Act.put, List.setIfInBounds_toArray, List.set_cons_zero, List.set_cons_succ]
                      refine takeW 21 59 ?_ rfl rfl (by kernel_rfl) (by kernel_rfl) (by kernel_rfl) (fun _ _ _ h => h) (Or.inl ⟨by rfl, ?_⟩) hS ?_
                      rotate_left
                      · intro w hSw; (try dsimp only at hSw); go_simp; try with_reducible rfl
                      simp only [Act.put, List.setIfInBounds_toArray, List.set_cons_zero, List.set_cons_succ]
                      refine takeW 22 60 ?_ rfl rfl (by kernel_rfl) (by kernel_rfl) (by kernel_rfl) (fun _ _ _ h => h) (Or.inl ⟨by rfl, ?_⟩) hS ?_
                      rotate_left
                      · intro w hSw; (try dsimp only at hSw); go_simp; try with_reducible rfl
                      simp only [Act.put, List.setIfInBounds_toArray, List.set_cons_zero, List.set_cons_succ]
                      refine takeW 23 61 ?_ rfl rfl (by kernel_rfl) (by kernel_rfl) (by kernel_rfl) (fun _ _ _ h => h) (Or.inl ⟨by rfl, ?_⟩) hS ?_
                      rotate_left
                      · intro w hSw; (try dsimp only at hSw); go_simp; try with_reducible rfl
                      simp only [Act.put, List.setIfInBounds_toArray, List.set_cons_zero, List.set_cons_succ]
                      refine takeW 24 62 ?_ rfl rfl (by kernel_rfl) (by kernel_rfl) (by kernel_rfl) (fun _ _ _ h => h) (Or.inl ⟨by rfl, ?_⟩) hS ?_
                      rotate_left
                      · intro w hSw; (try dsimp only at hSw); go_simp; try with_reducible rfl
                      simp only [Act.put, List.setIfInBounds_toArray, List.set_cons_zero, List.set_cons_succ]
                      refine wpAnyH_done (by kernel_rfl) ?_ _
                      go_wp2_with fail
                      exact ⟨⟨x + 1, by omega, by rw [HQ.out], by go_num, HBx.out.trans (hN4.mono HBx.out.size)⟩, by simp [intOf]; omega⟩
                  · rw [hto] at HAll HRs
                    have HQ : Hid (readyTo (edgeU xs) r told k (x + 1) = true) := HRs.out
                    clear HRs hto
                    go_wp2_with fail
                    refine wp_region_held_drew (S := fun w' => w'.cell? ⟨w.heap.size, 0, none⟩ = some (.slice gp gl gc) ∧ w'.cell? ⟨w.heap.size, 1, none⟩ = some (.slice fp xs.length fc) ∧ w'.cell? ⟨w1.heap.size, x, none⟩ = some (.bool true) ∧ w'.cell? ⟨b1, o1 + x, none⟩ = some (.int .i64 (r x)) ∧ w'.cell? ⟨b1, o1 + k, none⟩ = some (.int .i64 (r k))) (by kernel_rfl) (HAll.out _ (by repeat (first | with_reducible exact Below.refl _ _ | with_reducible exact HB3.out | with_reducible refine Below.drew ?_ | with_reducible refine below_drewN ?_ _ | with_reducible refine Below.setCell ?_ ?_ _ | with_reducible refine Below.alloc ?_ ?_ _ | with_reducible exact HB2.out | with_reducible exact HB1.out | with_reducible refine Below.trans ?_ (Below.mono hb3 ?_) | with_reducible refine Below.trans ?_ (Below.mono hb5 ?_) | with_reducible refine Below.trans ?_ (Below.mono hb4 ?_) | omega | (simp; omega) | simp))) (fun hS => ?_)
                    refine takeW 0 38 ?_ rfl rfl (by kernel_rfl) (by kernel_rfl) (by kernel_rfl) (fun _ _ _ h => h) (Or.inl ⟨by rfl, ?_⟩) hS ?_
                    rotate_left
                    · intro w hSw; (try dsimp only at hSw); go_simp; try with_reducible rfl
                    simp only [Act.put, List.setIfInBounds_toArray, List.set_cons_zero, List.set_cons_succ]
                    refine takeW 1 39 ?_ rfl rfl (by kernel_rfl) (by kernel_rfl) (by kernel_rfl) (fun _ _ _ h => h) (Or.inl ⟨by rfl, ?_⟩) hS ?_
                    rotate_left
                    · intro w hSw; (try dsimp only at hSw); go_simp; try with_reducible rfl
                    simp only [Act.put, List.setIfInBounds_toArray, List.set_cons_zero, List.set_cons_succ]
                    refine takeW 2 40 ?_ rfl rfl (by kernel_rfl) (by kernel_rfl) (by kernel_rfl) (fun _ _ _ h => h) (Or.inl ⟨by rfl, ?_⟩) hS ?_
                    rotate_left
                    · intro w hSw; (try dsimp only at hSw); go_simp; try with_reducible rfl
                    simp only [Act.put, List.setIfInBounds_toArray, List.set_cons_zero, List.set_cons_succ]
                    refine takeW 3 41 ?_ rfl rfl (by kernel_rfl) (by kernel_rfl) (by kernel_rfl) (fun _ _ _ h => h) (Or.inl ⟨by rfl, ?_⟩) hS ?_
                    rotate_left
                    · intro w hSw; (try dsimp only at hSw); go_simp; try with_reducible rfl
                    simp only [Act.put, List.setIfInBounds_toArray, List.set_cons_zero, List.set_cons_succ]
                    refine takeW 4 42 ?_ rfl rfl (by kernel_rfl) (by kernel_rfl) (by kernel_rfl) (fun _ _ _ h => h) (Or.inl ⟨by rfl, ?_⟩) hS ?_
                    rotate_left
                    · intro w hSw; (try dsimp only at hSw); go_simp; try with_reducible rfl
                    simp only [Act.put, List.setIfInBounds_toArray, List.set_cons_zero, List.set_cons_succ]
                    refine wpAnyH_ready (rs := [5]) (by kernel_rfl) (by simp) ?_
                    refine AllReadyH.cons rfl (fun K hK => ?_) AllReadyH.nil
                    go_simp
                    refine (HCo.out _ (by repeat (first | with_reducible exact Below.refl _ _ | with_reducible exact HB3.out | with_reducible refine Below.drew ?_ | with_reducible refine below_drewN ?_ _ | with_reducible refine Below.setCell ?_ ?_ _ | with_reducible refine Below.alloc ?_ ?_ _ | with_reducible exact HB2.out | with_reducible exact HB1.out | with_reducible refine Below.trans ?_ (Below.mono hb3 ?_) | with_reducible refine Below.trans ?_ (Below.mono hb5 ?_) | with_reducible refine Below.trans ?_ (Below.mono hb4 ?_) | omega | (simp; omega) | simp))).mono ?_
                    rintro e w4 ⟨rfl, hb4⟩
                    have hN4 : Below wr.heap.size wr w4 := Below.trans (by repeat (first | with_reducible exact Below.refl _ _ | with_reducible exact HB3.out | with_reducible refine Below.drew ?_ | with_reducible refine below_drewN ?_ _ | with_reducible refine Below.setCell ?_ ?_ _ | with_reducible refine Below.alloc ?_ ?_ _ | with_reducible exact HB2.out | with_reducible exact HB1.out | with_reducible refine Below.trans ?_ (Below.mono hb3 ?_) | with_reducible refine Below.trans ?_ (Below.mono hb5 ?_) | with_reducible refine Below.trans ?_ (Below.mono hb4 ?_) | omega | (simp; omega) | simp)) (hb4.mono (by first | omega | (simp; done) | (simp; omega)))
                    refine hK.out _ _ (HAll.out _ hN4) (fun hS => ?_)
                    clear hK K
                    try simp only [Act.put, List.setIfInBounds_toArray, List.set_cons_zero, List.set_cons_succ]
                    refine takeW 6 44 ?_ rfl rfl (by kernel_rfl) (by kernel_rfl) (by kernel_rfl) (fun _ _ _ h => h) (Or.inl ⟨by rfl, ?_⟩) hS ?_
                    rotate_left
                    · intro w hSw; (try dsimp only at hSw); go_simp; try with_reducible rfl
                    simp only [Act.put, List.setIfInBounds_toArray, List.set_cons_zero, List.set_cons_succ]
                    refine takeW 7 45 ?_ rfl rfl (by kernel_rfl) (by kernel_rfl) (by kernel_rfl) (fun _ _ _ h => h) (Or.inl ⟨by rfl, ?_⟩) hS ?_
                    rotate_left
                    · intro w hSw; (try dsimp only at hSw); go_simp; try with_reducible rfl
                    simp only [Act.put, List.setIfInBounds_toArray, List.set_cons_zero, List.set_cons_succ]
                    refine takeW 8 46 ?_ rfl rfl (by kernel_rfl) (by kernel_rfl) (by kernel_rfl) (fun _ _ _ h => h) (Or.inl ⟨by rfl, ?_⟩) hS ?_
                    rotate_left
                    · intro w hSw; (try dsimp only at hSw); go_simp; try with_reducible rfl
                    simp only [Act.put, List.setIfInBounds_toArray, List.set_cons_zero, List.set_cons_succ]
                    refine takeW 9 47 ?_ rfl rfl (by kernel_rfl) (by kernel_rfl) (by kernel_rfl) (fun _ _ _ h => h) (Or.inl ⟨by rfl, ?_⟩) hS ?_
                    rotate_left
                    · intro w hSw; (try dsimp only at hSw); go_simp; try with_reducible rfl
                    simp only [Act.put, List.setIfInBounds_toArray, List.set_cons_zero, List.set_cons_succ]
                    refine takeW 10 48 ?_ rfl rfl (by kernel_rfl) (by kernel_rfl) (by kernel_rfl) (fun _ _ _ h => h) (Or.inl ⟨by rfl, ?_⟩) hS ?_
                    rotate_left
                    · intro w hSw; (try dsimp only at hSw); go_simp; try with_reducible rfl
                    simp only [Act.put, List.setIfInBounds_toArray, List.set_cons_zero, List.set_cons_succ]
                    refine takeW 11 49 ?_ rfl rfl (by kernel_rfl) (by kernel_rfl) (by kernel_rfl) (fun _ _ _ h => h) (Or.inl ⟨by rfl, ?_⟩) hS ?_
                    rotate_left
                    · intro w hSw; (try dsimp only at hSw); go_simp; try with_reducible rfl
                    simp only [Act.put, List.setIfInBounds_toArray, List.set_cons_zero, List.set_cons_succ]
                    refine takeW 12 50 ?_ rfl rfl (by kernel_rfl) (by kernel_rfl) (by kernel_rfl) (fun _ _ _ h => h) (Or.inl ⟨by rfl, ?_⟩) hS ?_
                    rotate_left
                    · intro w hSw; (try dsimp only at hSw); go_simp; try with_reducible rfl
                    simp only [Act.put, List.setIfInBounds_toArray, List.set_cons_zero, List.set_cons_succ]
                    refine takeW 13 51 ?_ rfl rfl (by kernel_rfl) (by kernel_rfl) (by kernel_rfl) (fun _ _ _ h => h) (Or.inl ⟨by rfl, ?_⟩) hS ?_
                    rotate_left
                    · intro w hSw; (try dsimp only at hSw); go_simp; try with_reducible rfl
                    simp only [Act.put, List.setIfInBounds_toArray, List.set_cons_zero, List.set_cons_succ]
                    refine takeW 14 52 ?_ rfl rfl (by kernel_rfl) (by kernel_rfl) (by kernel_rfl) (fun _ _ _ h => h) (Or.inl ⟨by rfl, ?_⟩) hS ?_
                    rotate_left
                    · intro w hSw; (try dsimp only at hSw); go_simp; try with_reducible rfl
                    simp only [Act.put, List.setIfInBounds_toArray, List.set_cons_zero, List.set_cons_succ]
                    refine takeW 15 53 undef rfl rfl (by kernel_rfl) (by kernel_rfl) (by kernel_rfl) (fun _ _ _ h => h) (Or.inr ⟨by rfl, rfl⟩) hS ?_
                    simp only [Act.put, List.setIfInBounds_toArray, List.set_cons_zero, List.set_cons_succ]
                    refine takeW 16 54 undef rfl rfl (by kernel_rfl) (by kernel_rfl) (by kernel_rfl) (fun _ _ _ h => h) (Or.inr ⟨by rfl, rfl⟩) hS ?_
                    simp only [Act.put, List.setIfInBounds_toArray, List.set_cons_zero, List.set_cons_succ]
                    refine takeW 17 55 undef rfl rfl (by kernel_rfl) (by kernel_rfl) (by kernel_rfl) (fun _ _ _ h => h) (Or.inr ⟨by rfl, rfl⟩) hS ?_
                    simp only [Act.put, List.setIfInBounds_toArray, List.set_cons_zero, List.set_cons_succ]
                    refine takeW 18 56 undef rfl rfl (by kernel_rfl) (by kernel_rfl) (by kernel_rfl) (fun _ _ _ h => h) (Or.inr ⟨by rfl, rfl⟩) hS ?_
                    simp only [Act.put, List.setIfInBounds_toArray, List.set_cons_zero, List.set_cons_succ]
                    refine takeW 19 57 undef rfl rfl (by kernel_rfl) (by kernel_rfl) (by kernel_rfl) (fun _ _ _ h => h) (Or.inr ⟨by rfl, rfl⟩) hS ?_
                    simp only [Act.put, List.setIfInBounds_toArray, List.set_cons_zero, List.set_cons_succ]
                    refine takeW 20 58 undef rfl rfl (by kernel_rfl) (by kernel_rfl) (by kernel_rfl) (fun _ _ _ h => h) (Or.inr ⟨by rfl, rfl⟩) hS ?_
                    simp only [Act.put, List.setIfInBounds_toArray, List.set_cons_zero, List.set_cons_succ]
                    refine takeW 21 59 undef rfl rfl (by kernel_rfl) (by kernel_rfl) (by kernel_rfl) (fun _ _ _ h => h) (Or.inr ⟨by rfl, rfl⟩) hS ?_
                    simp only [Act.put, List.setIfInBounds_toArray, List.set_cons_zero, List.set_cons_succ]
                    refine takeW 22 60 undef rfl rfl (by kernel_rfl) (by kernel_rfl) (by kernel_rfl) (fun _ _ _ h => h) (Or.inr ⟨by rfl, rfl⟩) hS ?_
                    simp only [Act.put, List.setIfInBounds_toArray, List.set_cons_zero, List.set_cons_succ]
                    refine takeW 23 61 undef rfl rfl (by kernel_rfl) (by kernel_rfl) (by kernel_rfl) (fun _ _ _ h => h) (Or.inr ⟨by rfl, rfl⟩) hS ?_
                    simp only [Act.put, List.setIfInBounds_toArray, List.set_cons_zero, List.set_cons_succ]
                    refine takeW 24 62 ?_ rfl rfl (by kernel_rfl) (by kernel_rfl) (by kernel_rfl) (fun _ _ _ h => h) (Or.inl ⟨by rfl, ?_⟩) hS ?_
                    rotate_left
                    · intro w hSw; (try dsimp only at hSw); go_simp; try with_reducible rfl
                    simp only [Act.put, List.setIfInBounds_toArray, List.set_cons_zero, List.set_cons_succ]
                    refine wpAnyH_done (by kernel_rfl) ?_ _
                    go_wp2_with fail
                    exact ⟨⟨x + 1, by omega, by rw [HQ.out], by go_num, HBx.out.trans (hN4.mono HBx.out.size)⟩, by simp [intOf]; omega⟩
            · obtain rfl : x = xs.length := by omega
              rw [readyTo_all]
              have HBz : Hid (Below wo.heap.size wo wr) := HBq.out.trans (hb.mono HBq.out.size)
              have HR5 := hidI (rowIs_below HR.out HBz.out)
              have HO5 := hidI (ownsRow_below' HO.out HBz.out)
              clear hb
              cases hrd : readyB xs.length (edgeU xs) r told k
              · have HQ := hidI hrd
                clear hrd
                go_wp2_with fail
                refine ⟨⟨k + 1, by omega, rfl, by go_num, fun j hj => ?_, HBz.out⟩, by simp [intOf]; omega⟩
                by_cases hj2 : j < k
                · exact HV.out j hj2
                · obtain rfl : j = k := by omega
                  exact HQ.out
              · have HQ : Hid (orderN xs.length (edgeU xs) r (m + 1) = o ++ [k]) := by
                  show _ = _
                  have hn : nextO xs.length (edgeU xs) r (orderN xs.length (edgeU xs) r m) = some k := find_hit hlt2 (by rw [← HOo.out, ← HTo.out]; exact hrd) (fun j hj => by rw [← HOo.out, ← HTo.out]; exact HV.out j hj)
                  rw [orderN, hn, ← HOo.out]
                clear hrd
                have c2 := HR5.out.cell hlt2
                have c3 := HR5.out.frozen k
                have z2 := HR5.out.lt
                have hap : (Value.slice q m d).ownBlock = none ∨ (Value.slice q m d).ownBlock ≠ some w1.heap.size := by
                  cases hq : (Value.slice q m d).ownBlock with
                  | none => exact .inl rfl
                  | some g =>
                    right
                    intro e
                    cases e
                    have := (HO5.out.lt _ hq).1
                    omega
                have HOs : Hid ((wr.setCell ⟨w1.heap.size, k, none⟩ (.bool true)).ownsRow (w1.heap.size + 1) 3 1 (.slice q m d) m ((intsN o).map (.int .i64))) := HO5.out.kept (row := some w1.heap.size) ⟨rfl, rfl, rfl, by simp [World.setCell], fun kk hk hne => Below.heap_setCell _ _ _ _ (fun e => hne (by rw [e]))⟩ hap
                have HRs2 := hidI (HR5.out.set k (.bool true))
                clear hap
                go_wp2_with (at_builtin; refine wpList_append_own_at _ rfl _ _ 39 rfl (w1.heap.size + 1) 3 i1 (.int .i64 0) 1 8 underInts6 k1 k2 k3 k4 rfl (by decide) _ _ _ rfl (HOs.out.alloc _) ⟨wr.heap.size, 0, none⟩ 1 1 [.int .i64 k] rfl rfl (cell_one_at _ _ _ _ (by simp [World.setCell])) (by simp [Value.oneCell']) ?_ ?_ ?_ ?_)
                · unfold maxLen; omega
                · omega
                · simp [World.setCell]; omega
                intro v' w6 hown' hgrow _ _
                obtain ⟨g', cap', rfl⟩ := ownsRow_succ' hown'
                have hlo : ∀ g, (Value.slice q m d).ownBlock = some g → w1.heap.size + 1 ≤ g := fun g hg => (HOs.out.lt g hg).1
                have HR6 : Hid (w6.rowIs w1.heap.size 4 xs.length (fun x => .bool ((orderN xs.length (edgeU xs) r (m + 1)).contains x))) := by
                  have h1 := (HRs2.out.alloc (.cells #[.int .i64 k] 3)).of_block (hgrow.block _ (by simp [World.setCell]; omega) (fun e => by have := hlo _ e.symm; omega))
                  refine h1.congr fun j _ => ?_
                  rw [HQ.out, HTo.out]
                  by_cases e : j = k
                  · simp [e]
                  · simp [e]
                have HB6 : Hid (Below w1.heap.size w1 w6) := by
                  have h1 := HB.out.size
                  have h2 := HBz.out.size
                  exact (((HB.out.trans (HBz.out.mono h1)).setCell (Nat.le_refl _) _).alloc (by simp [World.setCell]; omega) _).grown hgrow (by simp [World.setCell]; omega) (fun g e => by have := hlo _ e; omega)
                have HO7 : Hid (w6.ownsRow (w1.heap.size + 1) 3 1 (.slice (some ⟨g', 0, none⟩) (m + 1) cap') (m + 1) ((intsN (orderN xs.length (edgeU xs) r (m + 1))).map (.int .i64))) := by
                  show World.ownsRow _ _ _ _ _ _ _
                  rw [HQ.out, intsN_snoc, List.map_append]
                  exact hown'
                clear hown' hgrow
                go_wp2_with fail
                exact ⟨⟨m + 1, by omega, by go_num, HO7.out, HR6.out, HB6.out⟩, by simp [intOf]; omega⟩
        · exfalso
          obtain rfl : k = xs.length := by omega
          obtain ⟨j, hj⟩ := (reachU xs).next_some (o := o) (by rw [HL.out]; exact hlt)
          rw [HRe.out] at hj
          obtain ⟨a, b, _⟩ := find_least hj
          have := HV.out j a
          rw [HTo.out] at this
          rw [this] at b
          cases b
    · obtain rfl : m = xs.length := by omega
      go_wp2_with fail
      go_ret
      obtain ⟨p', c', e, hs⟩ := own_ints (xs := intsN o) (by rw [intsN_len]; exact HL.out) HO.out (fun y hy => by
        unfold intsN at hy
        obtain ⟨j, hj, rfl⟩ := List.mem_map.1 hy
        rw [HOo.out] at hj
        have := (orderN_ok xs.length (edgeU xs) r xs.length).low j hj
        unfold I64
        omega)
      simp only [Value.slice.injEq] at e
      obtain ⟨rfl, _, _⟩ := e
      refine ⟨⟨_, _, rfl, ?_⟩, HB1.out.trans (HB.out.mono (by have := HB1.out.size; omega))⟩
      unfold orderU
      rw [HRe.out, ← HOo.out]
      exact hs
end Go.Proofs.YteckkdmgkikeaaaDoor
