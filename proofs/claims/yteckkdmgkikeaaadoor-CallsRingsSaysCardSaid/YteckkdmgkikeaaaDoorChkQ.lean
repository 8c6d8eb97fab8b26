/-
  The contract of slices.IndexFunc with the question whether a function is main.
-/
import Derived.Test.YteckkdmgkikeaaaDoorChkN
import Derived.WalkKit
import Derived.WalkSpells
import Derived.WalkLawsBesides
namespace Go.Proofs.YteckkdmgkikeaaaDoor
open Go.RowKit

theorem main_lit : ByteArray.toList ⟨#[109, 97, 105, 110]⟩ = [109, 97, 105, 110] := by decide +kernel

set_option maxHeartbeats 1000000 in
theorem isMain_any (nm : ByteArray) (params regs : Int) (bp : Option Addr) (bl bc : Nat) (w : World) :
    Calls Tryd.prog 50 #[.agg #[.string nm, .int .i64 params, .int .i64 regs, .slice bp bl bc]] w fun e w' => e = .returned (.bool (nm.toList == [109, 97, 105, 110])) ∧ Below w.heap.size w w' := by
  go_enter Tryd.func50, Tryd.ntmps50
  go_wp2
  go_ret
  exact ⟨rfl, by repeat (first | with_reducible exact Below.refl _ _ | with_reducible exact HB3.out | with_reducible refine Below.drew ?_ | with_reducible refine below_drewN ?_ _ | with_reducible refine Below.setCell ?_ ?_ _ | with_reducible refine Below.alloc ?_ ?_ _ | with_reducible exact HB2.out | with_reducible exact HB1.out | with_reducible refine Below.trans ?_ (Below.mono hb3 ?_) | with_reducible refine Below.trans ?_ (Below.mono hb5 ?_) | with_reducible refine Below.trans ?_ (Below.mono hb4 ?_) | omega | (simp; omega) | simp)⟩

def mainI (xs : List FunL) : Option Nat := (List.range xs.length).find? fun i => match xs[i]? with | some f => mainB f | none => false
theorem mainI_hit {xs : List FunL} {k : Nat} (hk : k < xs.length) (h0 : ∀ j (h : j < xs.length), j < k → mainB xs[j] = false) (h : mainB xs[k] = true) : mainI xs = some k := by
  unfold mainI
  refine find_range _ _ _ hk (fun j hj => ?_) ?_
  · rw [List.getElem?_eq_getElem (by omega)]; exact h0 j (by omega) hj
  · rw [List.getElem?_eq_getElem hk]; exact h
theorem mainI_none {xs : List FunL} (h0 : ∀ j (h : j < xs.length), mainB xs[j] = false) : mainI xs = none := by
  unfold mainI
  rw [List.find?_eq_none]
  intro i hi
  have hi := List.mem_range.1 hi
  rw [List.getElem?_eq_getElem hi]
  simp [h0 i hi]
def optI (o : Option Nat) : Int := match o with | some k => (k : Int) | none => -1

set_option maxRecDepth 100000 in
set_option maxHeartbeats 1000000 in
theorem indexMain_any (xs : List FunL) (fp : Option Addr) (fc : Nat) (w : World) (hl : xs.length ≤ 9223372036854775807) (hF : SliceAt w 4 (FunR w) fp xs) :
    Calls Tryd.prog 49 #[.slice fp xs.length fc, .func (.func 50) #[] #[]] w fun e w' => e = .returned (.int .i64 (optI (mainI xs))) ∧ Below w.heap.size w w' := by
  have HF := hidI hF
  clear hF
  go_enter Tryd.func49, Tryd.ntmps49
  go_wp2
  go_loopw [8] (fun i wr => ∃ k : Nat, k ≤ xs.length ∧ i = .int .i64 k ∧ (∀ j (h : j < xs.length), j < k → mainB xs[j] = false) ∧ Below w.heap.size w wr) (fun i _ => xs.length - (intOf i).toNat)
  case atStart => exact ⟨0, by omega, rfl, fun j _ h => by omega, Below.refl _ _⟩
  case round =>
    obtain ⟨k, hk, rfl, hV, hb⟩ := hrel
    have HV := hidI hV
    have HBw := hidI hb
    clear hV hb
    by_cases hlt : k < xs.length
    · obtain ⟨b, o, q, c, hp, e0, e1, e2, e3, _⟩ := funGet HF.out HBw.out hlt
      subst hp
      go_wp2_with fail
      refine (isMain_any _ _ _ _ _ _ _).mono ?_
      rintro e w3 ⟨rfl, hb3⟩
      have HB3 := hidI hb3
      have HE : Hid (mainB xs[k] = (xs[k].name.toList == [109, 97, 105, 110])) := rfl
      clear hb3
      cases hm : (xs[k].name.toList == [109, 97, 105, 110])
      · have HM : Hid (mainB xs[k] = false) := HE.out.trans hm
        clear hm
        go_wp2_with fail
        refine ⟨⟨k + 1, by omega, by go_num, fun j hj hjk => ?_, HBw.out.trans (HB3.out.mono HBw.out.size)⟩, by simp [intOf]; omega⟩
        by_cases hj2 : j < k
        · exact HV.out j hj hj2
        · obtain rfl : j = k := by omega
          exact HM.out
      · have HM : Hid (mainB xs[k] = true) := HE.out.trans hm
        clear hm
        go_wp2_with fail
        go_ret
        refine ⟨?_, HBw.out.trans (HB3.out.mono HBw.out.size)⟩
        rw [mainI_hit hlt HV.out HM.out]
        rfl
    · go_wp2_with fail
      go_ret
      refine ⟨?_, HBw.out⟩
      rw [mainI_none (fun j hj => HV.out j hj (by omega))]
      rfl
end Go.Proofs.YteckkdmgkikeaaaDoor
