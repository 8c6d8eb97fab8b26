/-
  The contract of the reference's fits.
  The contracts of the small functions that simple.One reaches, each walked once.
  The contracts of core.Shapes and of the reference's small functions: Two, copyOf, simpleBehind.
  Regions that draw their order, operation by operation, where what S says holds behind every operation.
  The contract of the reference's spanOver.
-/
import Derived.WalkKit
import Derived.WalkSpells
import Derived.WalkLawsBesides
import Derived.Test.YtdjamkinijhjoaaDoorJDatD
import Derived.Test.YtdjamkinijhjoaaDoorSpnF
import Derived.Test.YtdjamkinijhjoaaDoorRows
import Derived.Test.YtdjamkinijhjoaaDoorJDatC
import Derived.Test.YtdjamkinijhjoaaDoorJOwnA
import Derived.Deep.LoopGhost
import Derived.BigQuiet
import Derived.Deep.QuietTactic
namespace Go.Proofs.YtdjamkinijhjoaaDoor
open Go.RowKit

theorem i64B_iff {n : Int} : i64B n = true ↔ -9223372036854775808 ≤ n ∧ n ≤ 9223372036854775807 := by
  have e : i64B n = decide (-9223372036854775808 ≤ n ∧ n ≤ 9223372036854775807) := rfl
  rw [e, decide_eq_true_iff]
set_option maxHeartbeats 2000000 in
theorem rFits_add (a b : Int) (w : World) (ha : I64 a) (hb : I64 b) :
    Calls Tryd.prog 110 #[.int .i64 2, .int .i64 a, .int .i64 b] w fun e w' => e = .returned (.bool (i64B (a + b))) ∧ w' = w := by
  unfold I64 at ha hb
  by_cases h : 0 ≤ b
  · have hd : i64B (a + b) = decide (a ≤ 9223372036854775807 - b) := by
      rw [Bool.eq_iff_iff, i64B_iff, decide_eq_true_iff]; omega
    have hw : wrap64 (9223372036854775807 - b) = 9223372036854775807 - b := by unfold wrap64; omega
    have hwr : ∀ n, IntKind.i64.wrap n = wrap64 n := IntWalk.i64_left
    rw [hd]
    clear hd
    go_enter Tryd.func110, Tryd.ntmps110
    go_wp2_with fail
    go_ret
    exact ⟨rfl, rfl⟩
  · have hd : i64B (a + b) = decide (-9223372036854775808 - b ≤ a) := by
      rw [Bool.eq_iff_iff, i64B_iff, decide_eq_true_iff]; omega
    have hw : wrap64 (-9223372036854775808 - b) = -9223372036854775808 - b := by unfold wrap64; omega
    have hwr : ∀ n, IntKind.i64.wrap n = wrap64 n := IntWalk.i64_left
    rw [hd]
    clear hd
    go_enter Tryd.func110, Tryd.ntmps110
    go_wp2_with fail
    go_ret
    exact ⟨rfl, rfl⟩
set_option maxHeartbeats 2000000 in
theorem rFits_sub (a b : Int) (w : World) (ha : I64 a) (hb : I64 b) :
    Calls Tryd.prog 110 #[.int .i64 3, .int .i64 a, .int .i64 b] w fun e w' => e = .returned (.bool (i64B (a - b))) ∧ w' = w := by
  unfold I64 at ha hb
  by_cases h : 0 ≤ b
  · have hd : i64B (a - b) = decide (-9223372036854775808 + b ≤ a) := by
      rw [Bool.eq_iff_iff, i64B_iff, decide_eq_true_iff]; omega
    have hw : wrap64 (-9223372036854775808 + b) = -9223372036854775808 + b := by unfold wrap64; omega
    have hwr : ∀ n, IntKind.i64.wrap n = wrap64 n := IntWalk.i64_left
    rw [hd]
    clear hd
    go_enter Tryd.func110, Tryd.ntmps110
    go_wp2_with fail
    go_ret
    exact ⟨rfl, rfl⟩
  · have hd : i64B (a - b) = decide (a ≤ 9223372036854775807 + b) := by
      rw [Bool.eq_iff_iff, i64B_iff, decide_eq_true_iff]; omega
    have hw : wrap64 (9223372036854775807 + b) = 9223372036854775807 + b := by unfold wrap64; omega
    have hwr : ∀ n, IntKind.i64.wrap n = wrap64 n := IntWalk.i64_left
    rw [hd]
    clear hd
    go_enter Tryd.func110, Tryd.ntmps110
    go_wp2_with fail
    go_ret
    exact ⟨rfl, rfl⟩
theorem prod_le {a b M : Int} (hb : 0 < b) (hM : 0 ≤ M) : a ≤ M.tdiv b ↔ a * b ≤ M := by
  rw [Int.tdiv_eq_ediv_of_nonneg hM, Int.le_ediv_iff_mul_le hb]
theorem tdiv_bds {b M : Int} (hb : 0 < b) (hM : 0 ≤ M) : 0 ≤ M.tdiv b ∧ M.tdiv b ≤ M := by
  rw [Int.tdiv_eq_ediv_of_nonneg hM]
  exact ⟨Int.ediv_nonneg hM (by omega), Int.ediv_le_self _ hM⟩
theorem fit_pp {a b : Int} (ha : 0 < a) (hb : 0 < b) : i64B (a * b) = decide (a ≤ Int.tdiv 9223372036854775807 b) := by
  rw [Bool.eq_iff_iff, i64B_iff, decide_eq_true_iff, prod_le hb (by omega)]
  have := Int.mul_pos ha hb
  omega
theorem fit_pn {a b : Int} (ha : 0 < a) (hb : b < 0) : i64B (a * b) = decide (-Int.tdiv 9223372036854775808 a ≤ b) := by
  rw [Bool.eq_iff_iff, i64B_iff, decide_eq_true_iff]
  have h1 := prod_le (a := -b) (M := 9223372036854775808) ha (by omega)
  have h2 : -b * a = -(a * b) := by rw [Int.neg_mul, Int.mul_comm]
  have h3 := Int.mul_pos (show 0 < -b by omega) ha
  rw [h2] at h1 h3
  have h4 : -Int.tdiv 9223372036854775808 a ≤ b ↔ -b ≤ Int.tdiv 9223372036854775808 a := by omega
  rw [h4, h1]
  omega
theorem fit_nn {a b : Int} (ha : a < 0) (hb : b < 0) : i64B (a * b) = decide (-a ≤ Int.tdiv 9223372036854775807 (-b)) := by
  rw [Bool.eq_iff_iff, i64B_iff, decide_eq_true_iff, prod_le (by omega) (by omega), Int.neg_mul_neg]
  have h3 := Int.mul_pos_of_neg_of_neg ha hb
  omega
theorem fit_min {b : Int} (hb : b < 0) : i64B (-9223372036854775808 * b) = false := by
  have h : ¬ i64B (-9223372036854775808 * b) = true := by rw [i64B_iff]; omega
  simpa using h
set_option maxHeartbeats 2000000 in
theorem rFits_mul (a b : Int) (w : World) (ha : I64 a) (hb : I64 b) :
    Calls Tryd.prog 110 #[.int .i64 4, .int .i64 a, .int .i64 b] w fun e w' => e = .returned (.bool (i64B (a * b))) ∧ w' = w := by
  unfold I64 at ha hb
  have hwr : ∀ n, IntKind.i64.wrap n = wrap64 n := IntWalk.i64_left
  by_cases a0 : a = 0
  · rw [show i64B (a * b) = true from by subst a0; rw [Int.zero_mul]; rfl]
    go_enter Tryd.func110, Tryd.ntmps110
    go_wp2_with fail
    go_ret
    exact ⟨rfl, rfl⟩
  by_cases b0 : b = 0
  · rw [show i64B (a * b) = true from by subst b0; rw [Int.mul_zero]; rfl]
    have za : (a == 0) = false := by simp [a0]
    go_enter Tryd.func110, Tryd.ntmps110
    go_wp2_with fail
    go_ret
    exact ⟨rfl, rfl⟩
  have za : (a == 0) = false := by simp [a0]
  have zb : (b == 0) = false := by simp [b0]
  by_cases a1 : 0 < a
  · by_cases b1 : 0 < b
    · rw [fit_pp a1 b1]
      have hq := tdiv_bds (M := 9223372036854775807) b1 (by omega)
      obtain ⟨q, hqe⟩ : ∃ q, Int.tdiv 9223372036854775807 b = q := ⟨_, rfl⟩
      rw [hqe] at hq ⊢
      have hw : wrap64 q = q := by unfold wrap64; omega
      go_enter Tryd.func110, Tryd.ntmps110
      go_wp2_with fail
      go_ret
      exact ⟨rfl, rfl⟩
    · rw [fit_pn a1 (by omega)]
      have hq := tdiv_bds (M := 9223372036854775808) a1 (by omega)
      obtain ⟨q, hqe⟩ : ∃ q, Int.tdiv 9223372036854775808 a = q := ⟨_, rfl⟩
      rw [hqe] at hq ⊢
      have hw : wrap64 (-q) = -q := by unfold wrap64; omega
      go_enter Tryd.func110, Tryd.ntmps110
      go_wp2_with fail
      go_ret
      exact ⟨rfl, rfl⟩
  · by_cases b1 : 0 < b
    · rw [Int.mul_comm a b, fit_pn b1 (by omega)]
      have hq := tdiv_bds (M := 9223372036854775808) b1 (by omega)
      obtain ⟨q, hqe⟩ : ∃ q, Int.tdiv 9223372036854775808 b = q := ⟨_, rfl⟩
      rw [hqe] at hq ⊢
      have hw : wrap64 (-q) = -q := by unfold wrap64; omega
      go_enter Tryd.func110, Tryd.ntmps110
      go_wp2_with fail
      go_ret
      exact ⟨rfl, rfl⟩
    · by_cases am : a = -9223372036854775808
      · subst am
        rw [fit_min (by omega)]
        go_enter Tryd.func110, Tryd.ntmps110
        go_wp2_with fail
        go_ret
        exact ⟨rfl, rfl⟩
      · by_cases bm : b = -9223372036854775808
        · subst bm
          rw [Int.mul_comm, fit_min (by omega)]
          have hm : (a == -9223372036854775808) = false := by simp [am]
          go_enter Tryd.func110, Tryd.ntmps110
          go_wp2_with fail
          go_ret
          exact ⟨rfl, rfl⟩
        · rw [fit_nn (by omega) (by omega)]
          have hm : (a == -9223372036854775808) = false := by simp [am]
          have hm2 : (b == -9223372036854775808) = false := by simp [bm]
          have hq := tdiv_bds (b := -b) (M := 9223372036854775807) (by omega) (by omega)
          have hna : wrap64 (-a) = -a := by unfold wrap64; omega
          have hnb : wrap64 (-b) = -b := by unfold wrap64; omega
          obtain ⟨q, hqe⟩ : ∃ q, Int.tdiv 9223372036854775807 (-b) = q := ⟨_, rfl⟩
          rw [hqe] at hq ⊢
          have hw : wrap64 q = q := by unfold wrap64; omega
          go_enter Tryd.func110, Tryd.ntmps110
          go_wp2_with fail
          go_ret
          exact ⟨by simp [am, bm], rfl⟩
end Go.Proofs.YtdjamkinijhjoaaDoor
namespace Go.Proofs.YtdjamkinijhjoaaDoor
open Go.RowKit

/-- an instruction as plain data; its arguments are whatever value stands there -/
structure Inst where
  op : Int
  dst : Int
  ar : Bool
  an : Int
  br : Bool
  bn : Int
  fn : Int
  ap : Option Addr
  al : Nat
  ac : Nat
def Inst.cells (i : Inst) : Array Value := #[.int .i64 i.op, .int .i64 i.dst, .bool i.ar, .int .i64 i.an, .bool i.br, .int .i64 i.bn, .int .i64 i.fn, .slice i.ap i.al i.ac]
/-- an instruction of a kind with one value -/
def one1 (op dst : Int) (r : Bool) (n : Int) : Inst := ⟨op, dst, r, n, false, 0, 0, none, 0, 0⟩

end Go.Proofs.YtdjamkinijhjoaaDoor
namespace Go.Proofs.YtdjamkinijhjoaaDoor
open Go.RowKit

set_option maxHeartbeats 1000000 in
theorem rtwo_any (op a b : Int) (hop : 1 ≤ op ∧ op ≤ 17) (ha : I64 a) (w : World) :
    Calls Tryd.prog 63 #[.int .i64 op, .int .i64 a, .int .i64 b] w fun e w' => e = .returned (.tuple #[.int .i64 (twoL op a b).1, .bool (twoL op a b).2]) ∧ w = w' := by
  have h63 := i64_and63 b
  have h64 : (b % 64 < 0) = False := by simp; omega
  have hshl := fun k => shift_shl .i64 k a (b % 64) (by omega) (by show b % 64 ≤ ((64 : Nat) : Int); omega)
  have hshr := fun k => shift_shr .i64 k a (b % 64) (by omega) (by show b % 64 ≤ ((64 : Nat) : Int); omega)
  have hwr : ∀ n, IntKind.i64.wrap n = wrap64 n := IntWalk.i64_left
  have hwu : IntKind.u64.wrap (b % 64) = b % 64 := by rw [IntKind.wrap_u64]; omega
  have hnot : wrap64 (-1 - a) = -1 - a := IntWalk.wrap64_in _ (by unfold I64 at ha; omega)
  have hsg : IntKind.i64.signed = true := rfl
  clear ha
  have hops : op = 1 ∨ op = 2 ∨ op = 3 ∨ op = 4 ∨ op = 7 ∨ op = 8 ∨ op = 9 ∨ op = 10 ∨ op = 11 ∨ op = 12 ∨ op = 13 ∨ op = 14 ∨ op = 15 ∨ op = 16 ∨ op = 17 ∨ op = 5 ∨ op = 6 := by omega
  clear hop
  rcases hops with rfl | rfl | rfl | rfl | rfl | rfl | rfl | rfl | rfl | rfl | rfl | rfl | rfl | rfl | rfl | h56
  case inr.inr.inr.inr.inr.inr.inr.inr.inr.inr.inr.inr.inr.inr.inr =>
    by_cases hb : b = 0
    · subst hb
      rcases h56 with rfl | rfl
      all_goals
        go_enter Tryd.func63, Tryd.ntmps63
        go_wp2
        go_ret2
        exact ⟨by simp [twoL], rfl⟩
    · have hb2 : (b == 0) = false := by simpa using hb
      rcases h56 with rfl | rfl
      all_goals
        go_enter Tryd.func63, Tryd.ntmps63
        go_wp2
        go_ret2
        exact ⟨by simp [twoL, *], rfl⟩
  all_goals
    go_enter Tryd.func63, Tryd.ntmps63
    go_wp2
  all_goals go_ret2
  all_goals (refine ⟨?_, rfl⟩; first | (simp [twoL, *]; done) | simp_all [twoL])

set_option maxHeartbeats 400000 in
theorem fault_any (c a : Int) (w : World) :
    Calls Tryd.prog 11 #[.int .i64 c, .int .i64 a] w fun e w' => e = .returned (.agg #[.int .i64 c, .int .i64 a]) ∧ w' = w.alloc (.cells #[.int .i64 c, .int .i64 a] 28) := by
  go_enter Tryd.func11, Tryd.ntmps11
  go_wp2
  refine bodyPost_ret ?_ rfl ⟨rfl, rfl⟩
  simp [results, Tryd.results11, go_sem]
end Go.Proofs.YtdjamkinijhjoaaDoor
namespace Go.Proofs.YtdjamkinijhjoaaDoor
open Go.RowKit Go.Shelf

section
variable {P : Program} {md : Region.Mode} {ops : Array Oper} {Q : Exit → Act → World → Prop} {S : World → Prop} {z : Nat}
/-- what S says holds behind every operation -/
theorem wpAnyZ_firstF {i : Nat} {oi : Oper} {v : Value} (hi : ops[i]? = some oi) (hz : ops.size ≤ z) (hsel : ∀ (j : Nat) (o : Oper) cs b, ops[j]? = some o → o.op ≠ .select cs b)
    (hQ : ∀ c a w, Q (.panic c) (a.put oi.dst v) w → Q (.panic c) a w) :
    ∀ (fuel : Nat) (listed : Array Bool) (a : Act) (w : World),
      (∀ j oj, ops[j]? = some oj → j ≠ i → listed.getD j true = false → (∀ e ∈ oj.after, Region.binds md e = true → e.on ≠ i) → oi.apart ops oj = true) →
      i ∈ Region.ready md ops listed → YieldsIf P ops S oi v a → S w →
      wpAnyZ P md ops Q S z fuel (listed.setIfInBounds i true) (a.put oi.dst v) w → wpAnyZ P md ops Q S z (fuel + 1) listed a w := by
  intro fuel
  induction fuel with
  | zero =>
    intro listed a w _ hr hy hS H
    refine ⟨fun h => (by rw [h] at hr; cases hr), fun j hj => ?_⟩
    by_cases hji : j = i
    · subst hji; exact hy.wpOp hi hS ⟨fun _ => hS, H⟩
    · have := ready_mono hj hji
      rw [H.1] at this
      cases this
  | succ fuel ih =>
    intro listed a w hfree hr hy hS H
    refine ⟨fun h => (by rw [h] at hr; cases hr), fun j hj => ?_⟩
    by_cases hji : j = i
    · subst hji; exact hy.wpOp hi hS ⟨fun _ => hS, H⟩
    · have h1 := H.2 j (ready_mono hj hji)
      obtain ⟨hjun, oj, hoj, hall⟩ := mem_ready.1 hj
      have hnot : ∀ e ∈ oj.after, Region.binds md e = true → e.on ≠ i := fun e he hb heq => by
        have h1 := hall e he hb
        have h0 := (mem_ready.1 hr).1
        rw [heq] at h1
        rcases Nat.lt_or_ge i listed.size with h' | h'
        · simp [h'] at h0 h1; rw [h0] at h1; cases h1
        · simp [Array.getElem?_eq_none h'] at h1
      have hjz : j ≠ z := fun e => by have := (Array.getElem?_eq_some_iff.1 hoj).1; omega
      have h2 := wpOp_putIf hoj (hfree j oj hoj hji hjun hnot) (fun cs b => hsel i oi cs b hi) (fun cs b => hsel j oj cs b hoj) hQ hy h1
      have hfree' : ∀ k ok, ops[k]? = some ok → k ≠ i → (listed.setIfInBounds j true).getD k true = false →
          (∀ e ∈ ok.after, Region.binds md e = true → e.on ≠ i) → oi.apart ops ok = true := fun k ok hk hki hun hno => by
        refine hfree k ok hk hki ?_ hno
        by_cases hjk : j = k
        · subst hjk; exact hjun
        · rw [getD_set_ne true hjk] at hun; exact hun
      refine wpOp_mono (fun a' w' h3 => ⟨fun _ => h3.2.1 hjz, ih (listed.setIfInBounds j true) a' w' hfree' (ready_mono hr (Ne.symm hji)) h3.1 (h3.2.1 hjz) ?_⟩) h2
      rw [Array.setIfInBounds_comm _ _ hji]
      exact h3.2.2
theorem wpAnyZ_takeF {i : Nat} {oi : Oper} {v : Value} {fuel : Nat} {listed : Array Bool} {a : Act} {w : World} (hi : ops[i]? = some oi) (hw : ops.size ≤ z)
    (hs : Region.noSelect ops = true) (hf : Region.free md ops listed i = true) (hr : (Region.ready md ops listed).contains i = true)
    (hQ : ∀ c a w, Q (.panic c) (a.put oi.dst v) w → Q (.panic c) a w) (hy : YieldsIf P ops S oi v a) (hS : S w)
    (h : wpAnyZ P md ops Q S z fuel (listed.setIfInBounds i true) (a.put oi.dst v) w) : wpAnyZ P md ops Q S z (fuel + 1) listed a w :=
  wpAnyZ_firstF hi hw (Region.noSelect_spec hs) hQ fuel listed a w (Region.free_spec hi hf) (by simpa using hr) hy hS h
theorem takeF (i d : Nat) (v : Value) {oi : Oper} {fuel : Nat} {listed : Array Bool} {a : Act} {w : World} (hi : ops[i]? = some oi) (hd : oi.dst = some d) (hw : ops.size ≤ z)
    (hs : Region.noSelect ops = true) (hf : Region.free md ops listed i = true) (hr : (Region.ready md ops listed).contains i = true)
    (hQ : ∀ c a w, Q (.panic c) (a.put (some d) v) w → Q (.panic c) a w) (hy : YieldsIf P ops S oi v a) (hS : S w)
    (h : wpAnyZ P md ops Q S z fuel (listed.setIfInBounds i true) (a.put (some d) v) w) : wpAnyZ P md ops Q S z (fuel + 1) listed a w :=
  wpAnyZ_takeF hi hw hs hf hr (by rw [hd]; exact hQ) hy hS (by rw [hd]; exact h)
end
end Go.Proofs.YtdjamkinijhjoaaDoor
namespace Go.Proofs.YtdjamkinijhjoaaDoor
open Go.RowKit Go.Shelf

def opI (op a b : Int) : Int := if op = 2 then a + b else if op = 3 then a - b else a * b
theorem rFits_any (op a b : Int) (hop : op = 2 ∨ op = 3 ∨ op = 4) (w : World) (ha : I64 a) (hb : I64 b) :
    Calls Tryd.prog 110 #[.int .i64 op, .int .i64 a, .int .i64 b] w fun e w' => e = .returned (.bool (i64B (opI op a b))) ∧ w' = w := by
  rcases hop with rfl | rfl | rfl
  · exact rFits_add a b w ha hb
  · exact rFits_sub a b w ha hb
  · exact rFits_mul a b w ha hb
theorem rTwo_fit (op a b : Int) (hop : op = 2 ∨ op = 3 ∨ op = 4) (w : World) (ha : I64 a) (hf : i64B (opI op a b) = true) :
    Calls Tryd.prog 63 #[.int .i64 op, .int .i64 a, .int .i64 b] w fun e w' => e = .returned (.tuple #[.int .i64 (opI op a b), .bool true]) ∧ w' = w := by
  refine (rtwo_any op a b (by omega) ha w).mono fun e w' h => ⟨?_, h.2.symm⟩
  rw [i64B_iff] at hf
  have e2 : twoL op a b = (opI op a b, true) := by
    rcases hop with rfl | rfl | rfl
    · show (wrap64 (a + b), true) = (a + b, true)
      rw [show wrap64 (a + b) = a + b from by have h : opI 2 a b = a + b := rfl; rw [h] at hf; unfold wrap64; omega]
    · show (wrap64 (a - b), true) = (a - b, true)
      rw [show wrap64 (a - b) = a - b from by have h : opI 3 a b = a - b := rfl; rw [h] at hf; unfold wrap64; omega]
    · show (wrap64 (a * b), true) = (a * b, true)
      rw [show wrap64 (a * b) = a * b from by have h : opI 4 a b = a * b := rfl; rw [h] at hf; generalize a * b = n at *; unfold wrap64; omega]
  rw [h.1, e2]
def pairsI (op : Int) (ps : List (Int × Int)) : List Int := ps.map fun p => opI op p.1 p.2
theorem overS_drop (op : Int) (ps : List (Int × Int)) (s : Spn) {i : Nat} (h : i < ps.length) : overS (pairsI op (ps.drop i)) s = if i64B (opI op ps[i].1 ps[i].2) = true then overS (pairsI op (ps.drop (i + 1))) (joinS s (ofS (opI op ps[i].1 ps[i].2) (opI op ps[i].1 ps[i].2))) else allS := by
  rw [List.drop_eq_getElem_cons h]
  rfl
set_option maxRecDepth 100000 in
set_option maxHeartbeats 2000000 in
theorem rOver_any (op : Int) (ps : List (Int × Int)) (bx bz : Nat) (w : World) (hop : op = 2 ∨ op = 3 ∨ op = 4) (hn : ps.length ≤ 4) (h64 : ∀ p ∈ ps, I64 p.1 ∧ I64 p.2)
    (hx : ∀ i (h : i < ps.length), w.cell? ⟨bx, i, none⟩ = some (.int .i64 ps[i].1)) (hz : ∀ i (h : i < ps.length), w.cell? ⟨bz, i, none⟩ = some (.int .i64 ps[i].2)) :
    Calls Tryd.prog 60 #[.int .i64 op, .slice (some ⟨bx, 0, none⟩) ps.length ps.length, .slice (some ⟨bz, 0, none⟩) ps.length ps.length] w fun e w' => e = .returned (.agg #[.int .i64 (overS (pairsI op ps) noS').lo, .int .i64 (overS (pairsI op ps) noS').hi, .bool (overS (pairsI op ps) noS').has]) ∧ Below w.heap.size w w' := by
  have HX := hidI hx
  have HZ := hidI hz
  have H64 := hidI h64
  have Hop := hidI hop
  clear hx hz h64 hop
  obtain ⟨V, hV⟩ : ∃ V, V = overS (pairsI op ps) noS' := ⟨_, rfl⟩
  have HV := hidI hV
  rw [← hV]
  clear hV
  go_enter Tryd.func60, Tryd.ntmps60
  go_wp2_with fail
  obtain ⟨W, hW⟩ : ∃ W, W = (w.alloc (.cells #[.int .i64 0, .int .i64 0, .bool false] 40)).alloc (.cells #[.int .i64 0, .int .i64 0, .bool false] 40) := ⟨_, rfl⟩
  rw [← hW]
  have HB := hidI (show Below w.heap.size w W by rw [hW]; repeat (first | with_reducible exact Below.refl _ _ | with_reducible exact HB3.out | with_reducible refine Below.drew ?_ | with_reducible refine below_drewN ?_ _ | with_reducible refine Below.setCell ?_ ?_ _ | with_reducible refine Below.alloc ?_ ?_ _ | with_reducible exact HB2.out | with_reducible exact HB1.out | with_reducible refine Below.trans ?_ (Below.mono hb3 ?_) | with_reducible refine Below.trans ?_ (Below.mono hb5 ?_) | with_reducible refine Below.trans ?_ (Below.mono hb4 ?_) | omega | (simp; omega) | simp))
  have HR := hidI (show W.heap[w.heap.size]? = some (.cells #[.int .i64 0, .int .i64 0, .bool false] 40 (0, 0)) by rw [hW]; exact heap_step (heap_here w _))
  have HO := hidI (show W.heap[w.heap.size + 1]? = some (.cells #[.int .i64 0, .int .i64 0, .bool false] 40 (0, 0)) by rw [hW]; exact heap_at (by simp))
  clear hW
  go_loopg [8] ps.length (fun q s8 wr => ∃ (i : Nat) (s : Spn), i ≤ ps.length ∧ q = ps.length - i ∧ s8 = .int .i64 i ∧ wr.heap[w.heap.size + 1]? = some (.cells #[.int .i64 s.lo, .int .i64 s.hi, .bool s.has] 40 (0, 0)) ∧ Kept (fun k => k = w.heap.size + 1) W wr ∧ overS (pairsI op (ps.drop i)) s = V)
  case atStart => exact ⟨0, noS', by omega, rfl, rfl, HO.out, Kept.refl _ _, by rw [List.drop_zero]; exact HV.out.symm⟩
  case round =>
    clear HO
    obtain ⟨i, s, hi, rfl, rfl, hSb, hK, hfs⟩ := hrel
    have HSb := hidI hSb
    have HK := hidI hK
    have HFs := hidI hfs
    have HBr := hidI (HB.out.trans (hK.below HB.out.size fun i hi => by omega))
    have hR := (hK.block _ (ltHeap HR.out) (by omega)).trans HR.out
    have HRr := hidI hR
    clear hSb hK hfs hR
    by_cases hil : i < ps.length
    · have c0 := (HBr.out.cell (p := ⟨bx, i, none⟩) (lt_of_cell (HX.out i hil))).trans (HX.out i hil)
      have c1 := (HBr.out.cell (p := ⟨bz, i, none⟩) (lt_of_cell (HZ.out i hil))).trans (HZ.out i hil)
      have zc0 := lt_of_cell c0
      have zc1 := lt_of_cell c1
      obtain ⟨p1, p2⟩ := H64.out ps[i] (List.getElem_mem hil)
      have hfs := HFs.out
      rw [overS_drop op ps s hil] at hfs
      have HFs2 := hidI hfs
      have HFit := hidI (fun w => rFits_any op ps[i].1 ps[i].2 Hop.out w p1 p2)
      have HTwo := hidI (fun (h : i64B (opI op ps[i].1 ps[i].2) = true) w => rTwo_fit op ps[i].1 ps[i].2 Hop.out w p1 h)
      clear hfs HFs p1 p2
      generalize ps[i] = v at *
      obtain ⟨a, b⟩ := v
      simp only at c0 c1 HFs2 HFit HTwo
      obtain ⟨N, hN⟩ : ∃ N, N = opI op a b := ⟨_, rfl⟩
      rw [← hN] at HFs2 HFit HTwo
      clear hN
      cases hf : i64B N with
      | false =>
        have hV : allS = V := by have h := HFs2.out; rw [hf] at h; exact h
        have HV2 := hidI hV
        rw [hf] at HFit
        clear HFs2 hV HTwo
        go_wp2_with fail
        go_quiet ((go_at_call 110; refine Calls.quiet_of_same (HFit.out _)))
        obtain ⟨wq, hq⟩ : ∃ wq, wq = wr.drewN nq := ⟨_, rfl⟩
        rw [← hq]
        have HRq : Hid (wq.heap[w.heap.size]? = some (.cells #[.int .i64 0, .int .i64 0, .bool false] 40 (0, 0))) := hidI (by rw [hq]; exact HRr.out)
        have HBq : Hid (Below w.heap.size w wq) := hidI (by rw [hq]; exact below_drewN HBr.out nq)
        clear hq HSb HK HBr HRr c0 c1 zc0 zc1
        have r0 := (blk HRq.out).1 0
        have r1 := (blk HRq.out).1 1
        have r2 := (blk HRq.out).1 2
        have rf := (blk HRq.out).2
        have rz := ltHeap HRq.out
        simp only [List.getElem?_toArray, List.getElem?_cons_zero, List.getElem?_cons_succ] at r0 r1 r2
        go_wp2_with (go_at_call 25; refine (rAll_any _).mono ?_; rintro e w1 ⟨rfl, rfl⟩)
        refine bodyPost_ret (v := .agg #[.int .i64 (-9223372036854775808), .int .i64 9223372036854775807, .bool true]) ?_ rfl ⟨by rw [← HV2.out]; rfl, ?_⟩
        · simp [results, Tryd.results60, go_sem, *]
        · have := HBq.out.size
          repeat (first | with_reducible exact HBq.out | with_reducible refine Below.setCell ?_ ?_ _ | with_reducible refine Below.alloc ?_ ?_ _ | omega | (simp; omega) | simp)
      | true =>
        have hV : overS (pairsI op (ps.drop (i + 1))) (joinS s (ofS N N)) = V := by have h := HFs2.out; rw [hf] at h; exact h
        have HV2 := hidI hV
        have HTwo2 := hidI (HTwo.out hf)
        rw [hf] at HFit
        clear HFs2 hV HTwo
        go_wp2_with fail
        go_quiet ((go_at_call 110; refine Calls.quiet_of_same (HFit.out _)))
        go_wp2_with fail
        obtain ⟨wq, hq⟩ : ∃ wq, wq = wr.drewN nq := ⟨_, rfl⟩
        rw [← hq]
        replace c0 : wq.cell? ⟨bx, i, none⟩ = some (.int .i64 a) := by rw [hq]; exact c0
        replace c1 : wq.cell? ⟨bz, i, none⟩ = some (.int .i64 b) := by rw [hq]; exact c1
        replace zc0 := lt_of_cell c0
        replace zc1 := lt_of_cell c1
        have HSq : Hid (wq.heap[w.heap.size + 1]? = some (.cells #[.int .i64 s.lo, .int .i64 s.hi, .bool s.has] 40 (0, 0))) := hidI (by rw [hq]; exact HSb.out)
        have HKq : Hid (Kept (fun k => k = w.heap.size + 1) W wq) := hidI (by rw [hq]; exact HK.out.trans (Kept.of_below (S := fun _ => False) (below_drewN (Below.refl _ _) nq)) (fun _ _ h => h.elim))
        clear hq HSb HK HBr HRr
        go_quiet ((go_at_call 63; refine Calls.quiet_of_same (HTwo2.out _)))
        obtain ⟨w8, hw8⟩ : ∃ w8, w8 = wq.drewN nq := ⟨_, rfl⟩
        rw [← hw8]
        have HS8 : Hid (w8.heap[w.heap.size + 1]? = some (.cells #[.int .i64 s.lo, .int .i64 s.hi, .bool s.has] 40 (0, 0))) := hidI (by rw [hw8]; exact HSq.out)
        have HK8 : Hid (Kept (fun k => k = w.heap.size + 1) W w8) := hidI (by rw [hw8]; exact HKq.out.trans (Kept.of_below (S := fun _ => False) (below_drewN (Below.refl _ _) nq)) (fun _ _ h => h.elim))
        clear hw8 HSq HKq c0 c1 zc0 zc1
        go_wp2_with fail
        refine wp_region_calm (S := fun w' => Below w8.heap.size w8 w') (by kernel_rfl) 5 ?_
        obtain ⟨y0, hy0⟩ : ∃ y0, y0 = w8.drew := ⟨_, rfl⟩
        have hb0 : Below w8.heap.size w8 y0 := by rw [hy0]; exact (Below.refl _ _).drew
        rw [← hy0]
        clear hy0
        refine takeZ 0 43 (.agg #[.int .i64 s.lo, .int .i64 s.hi, .bool s.has]) rfl rfl (by kernel_rfl) (by kernel_rfl) (by kernel_rfl) (by kernel_rfl) (fun _ _ _ h => h) (Or.inl ⟨by rfl, fun w' h => ?_⟩) hb0 ?_
        · have h1 := (h.block _ (ltHeap HS8.out)).trans HS8.out
          have g0 := (blk h1).1 0
          have g1 := (blk h1).1 1
          have g2 := (blk h1).1 2
          simp only [List.getElem?_toArray, List.getElem?_cons_zero, List.getElem?_cons_succ] at g0 g1 g2
          go_simp
        refine takeZ 1 44 (.int .i64 N) rfl rfl (by kernel_rfl) (by kernel_rfl) (by kernel_rfl) (by kernel_rfl) (fun _ _ _ h => h) (Or.inl ⟨by rfl, fun w' h => ?_⟩) hb0 ?_
        · skip
          go_simp
        refine takeZ 2 45 (.int .i64 N) rfl rfl (by kernel_rfl) (by kernel_rfl) (by kernel_rfl) (by kernel_rfl) (fun _ _ _ h => h) (Or.inl ⟨by rfl, fun w' h => ?_⟩) hb0 ?_
        · skip
          go_simp
        refine stepZ_1 (i := 3) (by kernel_rfl) (stepZ_callTo 46 rfl rfl rfl (by go_simp) (rOf_any N N y0) ?_)
        rintro e y1 ⟨rfl, hy1⟩
        have hb1 : Below w8.heap.size w8 y1 := by rw [hy1]; exact hb0.trans (Below.mono (by repeat (first | with_reducible exact Below.refl _ _ | with_reducible exact HB3.out | with_reducible refine Below.drew ?_ | with_reducible refine below_drewN ?_ _ | with_reducible refine Below.setCell ?_ ?_ _ | with_reducible refine Below.alloc ?_ ?_ _ | with_reducible exact HB2.out | with_reducible exact HB1.out | with_reducible refine Below.trans ?_ (Below.mono hb3 ?_) | with_reducible refine Below.trans ?_ (Below.mono hb5 ?_) | with_reducible refine Below.trans ?_ (Below.mono hb4 ?_) | omega | (simp; omega) | simp)) hb0.size)
        clear hy1
        refine ⟨_, rfl, hb1, ?_⟩
        refine stepZ_1 (i := 4) (by kernel_rfl) (stepZ_callTo 47 rfl rfl rfl (by go_simp; exact ⟨rfl, rfl, rfl⟩) (rJoin_any s (ofS N N) y1) ?_)
        rintro e y2 ⟨rfl, hb2'⟩
        have hb2 : Below w8.heap.size w8 y2 := hb1.trans (hb2'.mono hb1.size)
        clear hb2' hb1 hb0
        refine ⟨_, rfl, hb2, ?_⟩
        obtain ⟨sn, hsn⟩ : ∃ sn, sn = joinS s (ofS N N) := ⟨_, rfl⟩
        rw [← hsn] at HV2 ⊢
        clear hsn
        have hS2 := (hb2.block _ (ltHeap HS8.out)).trans HS8.out
        have z2 := ltHeap hS2
        have c0 := (blk hS2).1 0
        have c1 := (blk hS2).1 1
        have c2 := (blk hS2).1 2
        have cf := (blk hS2).2
        simp only [List.getElem?_toArray, List.getElem?_cons_zero, List.getElem?_cons_succ] at c0 c1 c2
        obtain ⟨y3, hy3⟩ : ∃ y3, y3 = ((y2.setCell ⟨w.heap.size + 1, 0, none⟩ (.int .i64 sn.lo)).setCell ⟨w.heap.size + 1, 1, none⟩ (.int .i64 sn.hi)).setCell ⟨w.heap.size + 1, 2, none⟩ (.bool sn.has) := ⟨_, rfl⟩
        refine stepZ_1 (i := 5) (by kernel_rfl) (stepZ_skipNo y3 rfl rfl rfl (by rw [hy3]; go_simp) (fun h => absurd rfl h) (wpAnyZ_done (by kernel_rfl) ?_ _))
        have HS3 : Hid (y3.heap[w.heap.size + 1]? = some (.cells #[.int .i64 sn.lo, .int .i64 sn.hi, .bool sn.has] 40 (0, 0))) := hidI (by
          rw [hy3, row_set (row_set (row_set hS2 0 _) 1 _) 2 _]
          rfl)
        have HK3 : Hid (Kept (fun k => k = w.heap.size + 1) W y3) := hidI (by
          rw [hy3]
          exact (((HK8.out.trans (Kept.of_below (S := fun _ => False) hb2) (fun _ _ h => h.elim)).setCell (p := ⟨w.heap.size + 1, 0, none⟩) rfl _).setCell (p := ⟨w.heap.size + 1, 1, none⟩) rfl _).setCell (p := ⟨w.heap.size + 1, 2, none⟩) rfl _)
        clear hy3 hS2 z2 c0 c1 c2 cf hb2
        simp only [calm]
        go_simp
        go_wp2_with fail
        go_roundg (ps.length - (i + 1))
        case measure => omega
        case rel => exact ⟨i + 1, sn, by omega, rfl, by go_num, HS3.out, HK3.out, HV2.out⟩
    · obtain rfl : i = ps.length := by omega
      have hV : s = V := by have h := HFs.out; rw [List.drop_length] at h; exact h
      have HV2 := hidI hV
      clear hV HFs
      have r0 := (blk HRr.out).1 0
      have r1 := (blk HRr.out).1 1
      have r2 := (blk HRr.out).1 2
      have rf := (blk HRr.out).2
      have rz := ltHeap HRr.out
      have s0 := (blk HSb.out).1 0
      have s1 := (blk HSb.out).1 1
      have s2 := (blk HSb.out).1 2
      have sz := ltHeap HSb.out
      simp only [List.getElem?_toArray, List.getElem?_cons_zero, List.getElem?_cons_succ] at r0 r1 r2 s0 s1 s2
      go_wp2_with fail
      refine bodyPost_ret (v := .agg #[.int .i64 s.lo, .int .i64 s.hi, .bool s.has]) ?_ rfl ⟨by rw [← HV2.out], ?_⟩
      · simp [results, Tryd.results60, go_sem, *]
      · have := HBr.out.size
        repeat (first | with_reducible exact HBr.out | with_reducible refine Below.setCell ?_ ?_ _ | with_reducible refine Below.alloc ?_ ?_ _ | omega | (simp; omega) | simp)
end Go.Proofs.YtdjamkinijhjoaaDoor
