/-
  The contract of turneryref5.CallsTable.
-/
import Derived.Test.YteckkdmgkikeaaaDoorCalE
import Derived.WalkKit
import Derived.WalkSpells
import Derived.WalkLawsBesides
namespace Go.Proofs.YteckkdmgkikeaaaDoor
open Go.RowKit

/-- a table of truths in a world: its rows are blocks of their own -/
structure TabW (w : World) (B : Nat) (ts tb : TypeId) (v : Value) (n k : Nat) (g : Nat → Nat) (T : Tab) : Prop where
  own : w.ownsRow B ts 1 v k ((List.range k).map fun j => .slice (some ⟨g j, 0, none⟩) n n)
  row : ∀ j, j < k → w.rowIs (g j) tb n (fun x => .bool (T j x))
  low : ∀ j, j < k → B ≤ g j
  apart : ∀ j, j < k → v.ownBlock ≠ some (g j)
  inj : ∀ i j, i < k → j < k → g i = g j → i = j
theorem TabW.nil (w : World) (B : Nat) (ts tb : TypeId) (n : Nat) (g : Nat → Nat) (T : Tab) : TabW w B ts tb (.slice none 0 0) n 0 g T :=
  ⟨World.ownsRow_nil _ _ _ _, fun j h => by omega, fun j h => by omega, fun j h => by omega, fun i j h => by omega⟩
theorem rowIs_below {w w' : World} {b : Nat} {t : TypeId} {n : Nat} {f : Nat → Value} (h : w.rowIs b t n f) (hb : Below w.heap.size w w') : w'.rowIs b t n f := h.of_block (hb.block b h.lt)
theorem TabW.below {w w' : World} {B : Nat} {ts tb : TypeId} {v : Value} {n k : Nat} {g : Nat → Nat} {T : Tab} (h : TabW w B ts tb v n k g T) (hb : Below w.heap.size w w') : TabW w' B ts tb v n k g T :=
  ⟨ownsRow_below' h.own hb, fun j hj => rowIs_below (h.row j hj) hb, h.low, h.apart, h.inj⟩
theorem TabW.congr {w : World} {B : Nat} {ts tb : TypeId} {v : Value} {n k : Nat} {g : Nat → Nat} {T T' : Tab} (h : TabW w B ts tb v n k g T) (e : ∀ a b, a < k → b < n → T a b = T' a b) : TabW w B ts tb v n k g T' :=
  ⟨h.own, fun j hj => (h.row j hj).congr fun x hx => by rw [e j x hj hx], h.low, h.apart, h.inj⟩
theorem TabW.cell {w : World} {B : Nat} {ts tb : TypeId} {p : Option Addr} {c n k : Nat} {g : Nat → Nat} {T : Tab} (h : TabW w B ts tb (.slice p k c) n k g T) {j : Nat} (hj : j < k) : ∃ q, p = some ⟨q, 0, none⟩ ∧ w.cell? ⟨q, j, none⟩ = some (.slice (some ⟨g j, 0, none⟩) n n) := by
  obtain ⟨q, hq, _, _, hc⟩ := own_cell h.own hj
  refine ⟨q, hq, ?_⟩
  rw [hc]
  simp [hj]
theorem TabW.bit {w : World} {B : Nat} {ts tb : TypeId} {v : Value} {n k : Nat} {g : Nat → Nat} {T : Tab} (h : TabW w B ts tb v n k g T) {j x : Nat} (hj : j < k) (hx : x < n) : w.cell? ⟨g j, x, none⟩ = some (.bool (T j x)) ∧ w.frozen? ⟨g j, x, none⟩ = false :=
  ⟨(h.row j hj).cell hx, (h.row j hj).frozen x⟩
/-- a bit is set -/
theorem TabW.set {w : World} {B : Nat} {ts tb : TypeId} {v : Value} {n k : Nat} {g : Nat → Nat} {T : Tab} (h : TabW w B ts tb v n k g T) {j x : Nat} (hj : j < k) (b : Bool) : TabW (w.setCell ⟨g j, x, none⟩ (.bool b)) B ts tb v n k g (fun a c => if a = j ∧ c = x then b else T a c) := by
  refine ⟨?_, fun i hi => ?_, h.low, h.apart, h.inj⟩
  · refine h.own.kept (row := some (g j)) ⟨rfl, rfl, rfl, by simp [World.setCell], fun kk hk hne => Below.heap_setCell _ _ _ _ (fun e => hne (by rw [e]))⟩ ?_
    exact .inr (h.apart j hj)
  · by_cases hij : i = j
    · subst hij
      refine ((h.row i hi).set x (.bool b)).congr fun y _ => ?_
      by_cases hy : y = x
      · simp [hy]
      · simp [hy]
    · refine ((h.row i hi).setOther (a := ⟨g j, x, none⟩) (fun e => hij (h.inj i j hi hj e)) _).congr fun y _ => ?_
      simp [hij]
/-- a row more -/
theorem TabW.snoc {w w' : World} {B : Nat} {ts tb : TypeId} {v v' : Value} {n k r : Nat} {g : Nat → Nat} {T : Tab} (h : TabW w B ts tb v n k g T) (hr : w.rowIs r tb n (fun x => .bool (T k x))) (hB : B ≤ r) (hv : v.ownBlock ≠ some r) (hn : ∀ j, j < k → g j ≠ r)
    (hown : w'.ownsRow B ts 1 v' (k + 1) (((List.range k).map fun j => .slice (some ⟨g j, 0, none⟩) n n) ++ [.slice (some ⟨r, 0, none⟩) n n])) (hg : w.grownBy w' v.ownBlock) (hat : v'.ownBlock = v.ownBlock ∨ v'.ownBlock = some w.heap.size) :
    TabW w' B ts tb v' n (k + 1) (fun j => if j = k then r else g j) T := by
  have keep : ∀ b f, w.rowIs b tb n f → v.ownBlock ≠ some b → w'.rowIs b tb n f ∧ v'.ownBlock ≠ some b := fun b f hb hne => by
    refine ⟨hb.of_block (hg.block b hb.lt (fun e => hne e.symm)), ?_⟩
    rcases hat with e | e
    · rw [e]; exact hne
    · rw [e]
      intro he
      have := hb.lt
      injection he with he
      omega
  refine ⟨?_, fun j hj => ?_, fun j hj => ?_, fun j hj => ?_, fun i j hi hj he => ?_⟩
  · have e : ((List.range (k + 1)).map fun j => Value.slice (some ⟨if j = k then r else g j, 0, none⟩) n n) = ((List.range k).map fun j => .slice (some ⟨g j, 0, none⟩) n n) ++ [.slice (some ⟨r, 0, none⟩) n n] := by
      rw [List.range_succ, List.map_append]
      congr 1
      · refine List.map_congr_left fun j hj => ?_
        have := List.mem_range.1 hj
        rw [if_neg (by omega)]
      · simp
    rw [e]
    exact hown
  · by_cases hjk : j = k
    · subst hjk
      simp only [if_true]
      exact (keep _ _ hr hv).1
    · simp only [if_neg hjk]
      exact (keep _ _ (h.row j (by omega)) (h.apart j (by omega))).1
  · by_cases hjk : j = k
    · simp only [if_pos hjk]; exact hB
    · simp only [if_neg hjk]; exact h.low j (by omega)
  · by_cases hjk : j = k
    · subst hjk
      simp only [if_true]
      exact (keep _ _ hr hv).2
    · simp only [if_neg hjk]
      exact (keep _ _ (h.row j (by omega)) (h.apart j (by omega))).2
  · by_cases h1 : i = k <;> by_cases h2 : j = k
    · rw [h1, h2]
    · simp only [if_pos h1, if_neg h2] at he
      exact absurd he.symm (hn j (by omega))
    · simp only [if_neg h1, if_pos h2] at he
      exact absurd he (hn i (by omega))
    · simp only [if_neg h1, if_neg h2] at he
      exact h.inj i j (by omega) (by omega) he

/-- does one call another one, or is it that one? -/
def baseT (xs : List FunL) : Tab := fun a b => a == b || (match xs[a]? with | some f => callsB f (b : Int) | none => false)
/-- who reaches whom -/
def tableU (xs : List FunL) : Tab := fwUp xs.length (baseT xs) xs.length

theorem underBools : Tryd.prog.underlying 62 = some (.slice 4) := by kernel_rfl
theorem underTab : Tryd.prog.underlying 68 = some (.slice 62) := by kernel_rfl
theorem infoBool : (Tryd.prog.info? 4).map (fun i => (i.zero, i.size, i.bytes)) = some (some (.bool false), 1, 1) := by kernel_rfl
theorem infoBools : (Tryd.prog.info? 62).map (fun i => (i.zero, i.size, i.bytes)) = some (some (.slice none 0 0), 1, 24) := by kernel_rfl

set_option maxRecDepth 100000 in
set_option maxHeartbeats 2000000 in
theorem table_any (xs : List FunL) (gp fp : Option Addr) (gl gc fc : Nat) (w : World) (hl : xs.length ≤ 10) (hF : SliceAt w 4 (FunR w) fp xs) :
    Calls Tryd.prog 27 #[.agg #[.slice gp gl gc, .slice fp xs.length fc]] w fun e w' => (∃ p c g, e = .returned (.slice p xs.length c) ∧ TabW w' (w.heap.size + 1) 62 4 (.slice p xs.length c) xs.length xs.length g (tableU xs)) ∧ Below w.heap.size w w' := by
  obtain ⟨i1, k1, k2, k3, k4⟩ := info_parts infoBool
  obtain ⟨i2, l1, l2, l3, l4⟩ := info_parts infoBools
  have hmk := run_make_row 62 4 i1 (.bool false) underBools k1 k2 k3 rfl .i64 .i64 xs.length (by rw [k4]; omega) (by omega)
  have HF := hidI hF
  clear hF
  go_enter Tryd.func27, Tryd.ntmps27
  go_wp2
  go_loopw [4, 5] (fun v i wr => ∃ (k : Nat) (g : Nat → Nat), k ≤ xs.length ∧ i = .int .i64 k ∧ TabW wr (w.heap.size + 1) 62 4 v xs.length k g (baseT xs) ∧ Below (w.heap.size + 1) (w.alloc (.cells #[.slice gp gl gc, .slice fp xs.length fc] 25)) wr) (fun _ i _ => xs.length - (intOf i).toNat)
  case atStart => exact ⟨0, fun _ => 0, by omega, rfl, TabW.nil _ _ _ _ _ _ _, Below.refl _ _⟩
  case round =>
    obtain ⟨k, g, hk, rfl, hR, hb⟩ := hrel
    obtain ⟨wo, hwo⟩ : ∃ wo : World, wo = wr := ⟨_, rfl⟩
    obtain ⟨p, c, hv⟩ := own_slice hR.own
    subst hv
    have HR := hidI hR
    have HB := hidI hb
    have HBx : Hid (Below w.heap.size w wr) := ((Below.refl _ _).alloc (Nat.le_refl _) _).trans (hb.mono (by omega))
    have hz : w.heap.size < wr.heap.size := by have := hb.size; simp at this; omega
    have HA := hidI (heap_below hb (by omega) (heap_here w _))
    clear hR hb
    by_cases hlt : k < xs.length
    · go_wp2
      subst hwo
      go_loopw [7] (fun i wq => ∃ x : Nat, x ≤ xs.length ∧ i = .int .i64 x ∧ wq.rowIs wo.heap.size 4 xs.length (fun y => .bool (decide (y < x) && baseT xs k y)) ∧ Below wo.heap.size wo wq) (fun i _ => xs.length - (intOf i).toNat)
      case atStart => exact ⟨0, by omega, rfl, by have := World.rowIs_made wo (.bool false) xs.length 4; simpa using this, by repeat (first | with_reducible exact Below.refl _ _ | with_reducible exact HB3.out | with_reducible refine Below.drew ?_ | with_reducible refine below_drewN ?_ _ | with_reducible refine Below.setCell ?_ ?_ _ | with_reducible refine Below.alloc ?_ ?_ _ | with_reducible exact HB2.out | with_reducible exact HB1.out | with_reducible refine Below.trans ?_ (Below.mono hb3 ?_) | with_reducible refine Below.trans ?_ (Below.mono hb5 ?_) | with_reducible refine Below.trans ?_ (Below.mono hb4 ?_) | omega | (simp; omega) | simp)⟩
      case round =>
        obtain ⟨x, hx, rfl, hrow, hb⟩ := hrel
        have HRow := hidI hrow
        have HBn := hidI hb
        have hzn : wo.heap.size < wr.heap.size := hrow.lt
        have hz2 : w.heap.size < wr.heap.size := by omega
        obtain ⟨hcc, hcf⟩ := blk (heap_below hb hz HA.out)
        clear hrow hb
        by_cases hlt2 : x < xs.length
        · have hc0 := HRow.out.cell hlt2
          have hf0 := HRow.out.frozen x
          have fin : ∀ (W : World), Below wr.heap.size wr W → Below wo.heap.size wo (W.setCell ⟨wo.heap.size, x, none⟩ (.bool (baseT xs k x))) ∧ (W.setCell ⟨wo.heap.size, x, none⟩ (.bool (baseT xs k x))).rowIs wo.heap.size 4 xs.length (fun y => .bool (decide (y < x + 1) && baseT xs k y)) := fun W hW => by
            refine ⟨(HBn.out.trans (hW.mono HBn.out.size)).setCell (Nat.le_refl _) _, ((rowIs_below HRow.out hW).set x _).congr fun y _ => ?_⟩
            by_cases hy : y = x
            · simp [hy]
            · have h2 : decide (y < x + 1) = decide (y < x) := by rw [decide_eq_decide]; omega
              simp [hy, h2]
          have HFin := hidI fin
          clear fin
          by_cases hkx : k = x
          · have hbq : ((k : Int) == x) = true := by simp [hkx]
            have HV : Hid (baseT xs k x = true) := by show _ = _; unfold baseT; simp [hkx]
            have HK := hidI hkx
            clear hkx
            go_wp2_with fail
            have h2 := HFin.out wr (Below.refl _ _)
            rw [HV.out] at h2
            exact ⟨⟨x + 1, by omega, by go_num, h2.2, h2.1⟩, by simp [intOf]; omega⟩
          · have hbq : ((k : Int) == x) = false := by simp; omega
            have HV : Hid (baseT xs k x = callsB xs[k] (x : Int)) := by
              show _ = _
              unfold baseT
              rw [List.getElem?_eq_getElem hlt]
              simp [hkx]
            have HK := hidI hkx
            clear hkx
            go_wp2_with fail
            refine (callsOne_any xs _ _ _ _ _ k _ _ hlt (by omega) (funsMono HF.out (HBx.out.trans (HBn.out.mono (by omega))))).mono ?_
            rintro e w2 ⟨rfl, hb2⟩
            have hc2 := (hb2.cell (p := ⟨wo.heap.size, x, none⟩) hzn).trans hc0
            have hf2 := (hb2.frozen (p := ⟨wo.heap.size, x, none⟩) hzn).trans hf0
            have HB2 := hidI hb2
            clear hb2
            go_wp2_with fail
            have h2 := HFin.out w2 HB2.out
            rw [HV.out] at h2
            exact ⟨⟨x + 1, by omega, by go_num, h2.2, h2.1⟩, by simp [intOf]; omega⟩
        · obtain rfl : x = xs.length := by omega
          have HR2 := hidI (HR.out.below HBn.out)
          have hro := hidI HR2.out.own
          go_wp2_with (at_builtin; refine wpList_append_own_at _ rfl _ _ 68 rfl (w.heap.size + 1) 62 i2 (.slice none 0 0) 1 24 underTab l1 l2 l3 l4 rfl (by decide) _ _ _ rfl (hro.out.alloc _) ⟨wr.heap.size, 0, none⟩ 1 1 [.slice (some ⟨wo.heap.size, 0, none⟩) xs.length xs.length] rfl rfl (cell_one_at _ _ _ _ rfl) (by simp [Value.oneCell']) (by unfold maxLen; omega) (by omega) ?_ ?_)
          · simp; omega
          intro v' w1 hown' hgrow _ hat
          have HS : Hid (TabW w1 (w.heap.size + 1) 62 4 v' xs.length (k + 1) (fun j => if j = k then wo.heap.size else g j) (baseT xs)) := by
            refine (HR2.out.below ((Below.refl _ _).alloc (Nat.le_refl _) (.cells #[.slice (some ⟨wo.heap.size, 0, none⟩) xs.length xs.length] 62))).snoc (r := wo.heap.size) ?_ (by omega) (fun e => ?_) (fun j hj e => ?_) hown' hgrow (by simpa using hat)
            · refine (HRow.out.alloc _).congr fun y hy => ?_
              simp [hy]
            · have := (HR.out.own.lt _ e).2
              omega
            · have := (HR.out.row j hj).lt
              omega
          obtain ⟨g', cap', rfl⟩ := ownsRow_succ' hown'
          have HB3 : Hid (Below (w.heap.size + 1) (w.alloc (.cells #[.slice gp gl gc, .slice fp xs.length fc] 25)) w1) := by
            refine ((HB.out.trans (HBn.out.mono (by omega))).alloc (by omega) _).grown hgrow (by simp; omega) (fun kk e => ?_)
            exact (HR.out.own.lt kk e).1
          clear hown' hgrow hat
          go_wp2_with fail
          exact ⟨⟨k + 1, _, by omega, by go_num, HS.out, HB3.out⟩, by simp [intOf]; omega⟩
    · obtain rfl : k = xs.length := by omega
      go_wp2
      clear hz HA HBx
      go_loopw [8] (fun i wr => ∃ m : Nat, m ≤ xs.length ∧ i = .int .i64 m ∧ TabW wr (w.heap.size + 1) 62 4 (.slice p xs.length c) xs.length xs.length g (fwUp xs.length (baseT xs) m) ∧ Below (w.heap.size + 1) (w.alloc (.cells #[.slice gp gl gc, .slice fp xs.length fc] 25)) wr) (fun i _ => xs.length - (intOf i).toNat)
      case atStart => exact ⟨0, by omega, rfl, HR.out, HB.out⟩
      case round =>
        clear HR HB hwo
        obtain ⟨m, hm, rfl, hR, hb⟩ := hrel
        have HR := hidI hR
        have HB := hidI hb
        clear hR hb
        by_cases hmt : m < xs.length
        · go_wp2
          go_loopw [9] (fun i wr => ∃ k : Nat, k ≤ xs.length ∧ i = .int .i64 k ∧ TabW wr (w.heap.size + 1) 62 4 (.slice p xs.length c) xs.length xs.length g (matUp xs.length (fwUp xs.length (baseT xs) m) m k) ∧ Below (w.heap.size + 1) (w.alloc (.cells #[.slice gp gl gc, .slice fp xs.length fc] 25)) wr) (fun i _ => xs.length - (intOf i).toNat)
          case atStart => exact ⟨0, by omega, rfl, HR.out, HB.out⟩
          case round =>
            clear HR HB
            obtain ⟨k, hk, rfl, hR, hb⟩ := hrel
            have HR := hidI hR
            have HB := hidI hb
            clear hR hb
            by_cases hkt : k < xs.length
            · go_wp2
              go_loopw [10] (fun i wr => ∃ x : Nat, x ≤ xs.length ∧ i = .int .i64 x ∧ TabW wr (w.heap.size + 1) 62 4 (.slice p xs.length c) xs.length xs.length g (rowUp (matUp xs.length (fwUp xs.length (baseT xs) m) m k) m k x) ∧ Below (w.heap.size + 1) (w.alloc (.cells #[.slice gp gl gc, .slice fp xs.length fc] 25)) wr) (fun i _ => xs.length - (intOf i).toNat)
              case atStart => exact ⟨0, by omega, rfl, HR.out, HB.out⟩
              case round =>
                clear HR HB
                obtain ⟨x, hx, rfl, hR, hb⟩ := hrel
                have HB := hidI hb
                have HT : Hid (rowUp (matUp xs.length (fwUp xs.length (baseT xs) m) m k) m k (x + 1) = updT (rowUp (matUp xs.length (fwUp xs.length (baseT xs) m) m k) m k x) m k x) := rfl
                by_cases hxt : x < xs.length
                · generalize rowUp (matUp xs.length (fwUp xs.length (baseT xs) m) m k) m k x = T at hR HT
                  have HR := hidI hR
                  obtain ⟨q, rfl, ck⟩ := hR.cell hkt
                  obtain ⟨q', hq', cm⟩ := hR.cell hmt
                  cases hq'
                  obtain ⟨b1, _⟩ := hR.bit hkt hmt
                  obtain ⟨b2, _⟩ := hR.bit hmt hxt
                  obtain ⟨b3, fz⟩ := hR.bit hkt hxt
                  have hlo := hR.low k hkt
                  clear hR hb
                  cases h1 : T k m
                  · have H1 := hidI h1
                    rw [h1] at b1
                    clear h1
                    go_wp2
                    refine ⟨⟨x + 1, by omega, by go_num, ?_, HB.out⟩, by simp [intOf]; omega⟩
                    rw [HT.out]
                    exact HR.out.congr fun a b _ _ => by simp [updT, H1.out]
                  · cases h2 : T m x
                    · have H1 := hidI h1
                      have H2 := hidI h2
                      rw [h1] at b1
                      rw [h2] at b2
                      clear h1 h2
                      go_wp2
                      refine ⟨⟨x + 1, by omega, by go_num, ?_, HB.out⟩, by simp [intOf]; omega⟩
                      rw [HT.out]
                      exact HR.out.congr fun a b _ _ => by simp [updT, H2.out]
                    · have H1 := hidI h1
                      have H2 := hidI h2
                      rw [h1] at b1
                      rw [h2] at b2
                      clear h1 h2
                      go_wp2
                      refine ⟨⟨x + 1, by omega, by go_num, ?_, HB.out.setCell (by show _ ≤ g k; omega) _⟩, by simp [intOf]; omega⟩
                      rw [HT.out]
                      refine (HR.out.set hkt true).congr fun a b _ _ => ?_
                      unfold updT
                      rw [H1.out, H2.out]
                      by_cases hab : a = k ∧ b = x
                      · rw [if_pos hab, hab.1, hab.2]; simp
                      · rw [if_neg hab]
                        by_cases ha : a = k
                        · have hbx : (b == x) = false := by simp; exact fun e => hab ⟨ha, e⟩
                          rw [hbx]; simp
                        · have hak : (a == k) = false := by simpa using ha
                          rw [hak]; simp
                · obtain rfl : x = xs.length := by omega
                  have HR := hidI hR
                  clear hR hb
                  go_wp2
                  exact ⟨⟨k + 1, by omega, by go_num, HR.out, HB.out⟩, by simp [intOf]; omega⟩
            · obtain rfl : k = xs.length := by omega
              go_wp2
              exact ⟨⟨m + 1, by omega, by go_num, HR.out, HB.out⟩, by simp [intOf]; omega⟩
        · obtain rfl : m = xs.length := by omega
          go_wp2
          go_ret
          exact ⟨⟨p, c, g, rfl, HR.out⟩, Below.trans ((Below.refl _ _).alloc (Nat.le_refl _) _) (HB.out.mono (by omega))⟩
end Go.Proofs.YteckkdmgkikeaaaDoor
