/-
  Plain: a program that reads two numbers, does one instruction of them and prints what it made: its check, and its run.
The contract of turnerylaw5.simpleAlone.
-/
import Derived.Test.YtlalmbklhmpngaaDoorMeanA
import Derived.Test.YtlalmbklhmpngaaDoorRunX
import Derived.WalkKit
import Derived.WalkSpells
import Derived.WalkLawsBesides
namespace Go.Proofs.YtlalmbklhmpngaaDoor
open Go.RowKit

def aloneI (x : InsL) : List InsL := [⟨21, 0, false, 0, false, 0, 0, []⟩, ⟨21, 1, false, 0, false, 0, 0, []⟩, x, ⟨22, -1, true, 2, false, 0, 0, []⟩]
def aloneF (x : InsL) : FunL := ⟨⟨#[109, 97, 105, 110]⟩, 0, 3, [⟨[], aloneI x, ⟨1, false, 0, []⟩⟩]⟩
def aloneU (x : InsL) : UniL := ⟨[], [aloneF x]⟩
/-- an instruction that reckons, into register 2 -/
structure Lone (x : InsL) : Prop where
  op : 1 ≤ x.op ∧ x.op ≤ 17
  dst : x.dst = 2
  args : x.args = []
  fn : x.fn = 0
  b : shB x.op = false → x.br = false ∧ x.bn = 0
  va : valE 3 x.ar x.an = 0
  vb : valE 3 x.br x.bn = 0
theorem valE_num (n : Int) : valE 3 false n = 0 := by unfold valE; rw [if_neg (by simp)]
theorem lone_of {u : UniL} {f : FunL} {x : InsL} (hr : f.regs = 3) (h : insL u f x = 0) (hop : 1 ≤ x.op ∧ x.op ≤ 17) (hd : x.dst = 2) : Lone x := by
  unfold insL insE at h
  rw [hr, if_neg (by omega)] at h
  split at h
  · cases h
  · rename_i h1
    have hA : shA x.op = true := by unfold shA; rw [decide_eq_true_iff]; omega
    have h2 : shB x.op = false → x.br = false ∧ x.bn = 0 := fun hb => Decidable.byContradiction fun hn => h1 (.inr (.inr (.inl ⟨hb, hn⟩)))
    have h3 : ¬(x.fn ≠ 0 ∨ 0 < x.args.length) := fun hn => h1 (.inr (.inr (.inr ⟨by omega, hn⟩)))
    have h4 : x.fn = 0 := Decidable.byContradiction fun hn => h3 (.inl hn)
    have h5 : x.args = [] := List.length_eq_zero_iff.1 (by have : ¬ 0 < x.args.length := fun hn => h3 (.inr hn); omega)
    have hdz : dstE 3 x.dst = 0 := by rw [hd]; rfl
    rw [if_neg (fun hh => hh.2.2 hdz)] at h
    have h6 := firstE_all h
    exact ⟨hop, hd, h5, h4, h2, h6 _ (by simp), h6 _ (by simp)⟩
theorem Lone.ins {x : InsL} (h : Lone x) (u : UniL) {f : FunL} (hr : f.regs = 3) : insL u f x = 0 := by
  unfold insL insE
  have hD : shD x.op = true := by unfold shD; rw [decide_eq_true_iff]; have := h.op; omega
  have hA : shA x.op = true := by unfold shA; rw [decide_eq_true_iff]; have := h.op; omega
  have hop := h.op
  rw [hr, if_neg (by omega), if_neg, if_neg, h.va, h.vb]
  · have : (x.op == 20) = false := by rw [beq_eq_false_iff_ne]; omega
    rw [this]
    rfl
  · rintro ⟨_, _, h3⟩
    rw [h.dst] at h3
    exact h3 rfl
  · rintro (⟨h1, _⟩ | ⟨h1, _⟩ | ⟨h1, h2⟩ | ⟨_, h1⟩)
    · rw [hD] at h1; cases h1
    · rw [hA] at h1; cases h1
    · exact h2 (h.b h1)
    · rw [h.fn, h.args] at h1
      simp at h1
/-- an instruction as data -/
def instL (x : Inst) (args : List (Bool × Int)) : InsL := ⟨x.op, x.dst, x.ar, x.an, x.br, x.bn, x.fn, args⟩

theorem lone1 {op : Int} {r : Bool} {n : Int} (ho : op = 1 ∨ op = 16 ∨ op = 17) (h : valE 3 r n = 0) : Lone (instL (one1 op 2 r n) []) := by
  refine ⟨?_, rfl, rfl, rfl, fun _ => ⟨rfl, rfl⟩, h, valE_num 0⟩
  show 1 ≤ op ∧ op ≤ 17
  omega
theorem shB_two {op : Int} (h : 2 ≤ op ∧ op ≤ 15) : shB op = true := by unfold shB; rw [decide_eq_true_iff]; omega
theorem lone2 {op : Int} {r r' : Bool} {n n' : Int} {ap : Option Addr} {al ac : Nat} (ho : 2 ≤ op ∧ op ≤ 15) (h : valE 3 r n = 0) (h' : valE 3 r' n' = 0) : Lone (instL ⟨op, 2, r, n, r', n', 0, ap, al, ac⟩ []) := by
  refine ⟨?_, rfl, rfl, rfl, fun hb => ?_, h, h'⟩
  · show 1 ≤ op ∧ op ≤ 17
    omega
  · have : shB op = false := hb
    rw [shB_two ho] at this
    cases this
theorem lone_fix {op n an : Int} {ar : Bool} {ap : Option Addr} {al ac : Nat} (ho : 2 ≤ op ∧ op ≤ 15) (h : valE 3 ar an = 0) : Lone (instL (fixI op n 2 an 0 ar ap al ac) []) := by
  unfold fixI
  split
  · exact lone1 (.inl rfl) h
  split
  · exact lone1 (.inl rfl) (valE_num _)
  split
  · exact lone1 (.inl rfl) (valE_num _)
  split
  · exact lone1 (.inr (.inl rfl)) h
  split
  · exact lone1 (.inr (.inr rfl)) h
  · exact lone2 ho h (valE_num _)
/-- the simplest form of such an instruction is one -/
theorem lone_one {op an bn : Int} {ar br : Bool} {ap : Option Addr} {al ac : Nat} (h : Lone (instL ⟨op, 2, ar, an, br, bn, 0, ap, al, ac⟩ [])) : Lone (instL (oneI op 2 an bn 0 ar br ap al ac) []) := by
  have hop : 1 ≤ op ∧ op ≤ 17 := h.op
  have ha : valE 3 ar an = 0 := h.va
  have hb : valE 3 br bn = 0 := h.vb
  unfold oneI
  split
  · exact h
  split
  · split
    · exact h
    · exact lone1 (.inl rfl) (valE_num _)
  have h2 : 2 ≤ op ∧ op ≤ 15 := by omega
  split
  · split
    · exact lone1 (.inl rfl) (valE_num _)
    · exact h
  rename_i h3
  split
  · rename_i h4
    have hbr : br = true := by cases br; exact absurd ⟨h4.1, rfl⟩ h3; rfl
    subst hbr
    exact lone_fix h2 hb
  rename_i h4
  split
  · rename_i h5
    have har : ar = true := by cases ar; exact absurd ⟨rfl, h5.2⟩ h3; rfl
    subst har
    exact lone_fix (by omega) ha
  split
  · rename_i h6
    have har : ar = true := by cases ar; exact absurd ⟨rfl, h6⟩ h3; rfl
    subst har
    exact lone_fix h2 ha
  rename_i h6
  have hbr : br = true := by cases br; exact absurd rfl h6; rfl
  subst hbr
  split
  · unfold ledI
    split
    · exact lone1 (.inr (.inl rfl)) hb
    split
    · exact lone1 (.inl rfl) (valE_num _)
    · exact lone2 h2 (valE_num _) hb
  rename_i h7
  have har : ar = true := by cases ar; exact absurd rfl h7; rfl
  subst har
  split
  · unfold aliI
    split
    · exact lone1 (.inl rfl) (valE_num _)
    split
    · exact lone1 (.inl rfl) (valE_num _)
    split
    · exact lone1 (.inl rfl) ha
    · exact lone2 h2 ha ha
  · exact h

theorem alone_head (x : InsL) : headI (aloneU x) 0 = 0 := rfl
theorem alone_name : ((⟨#[109, 97, 105, 110]⟩ : ByteArray).toList == [109, 97, 105, 110]) = true := by kernel_rfl
theorem alone_mainB (x : InsL) : mainB (aloneF x) = true := alone_name
theorem alone_main (x : InsL) : mainAt (aloneU x) = some 0 := find_range 1 0 _ (by omega) (fun j hj => absurd hj (by omega)) (alone_mainB x)
theorem alone_body {x : InsL} (h : insL (aloneU x) (aloneF x) x = 0) : bodyI (aloneU x) 0 = 0 := by
  show bodyE (aloneU x) (aloneF x) = 0
  have h1 : firstE ((aloneF x).blocks.map fun b => endL (aloneF x) b.fin) = 0 := rfl
  unfold bodyE
  rw [if_pos h1]
  refine firstE_zero fun y hy => ?_
  obtain ⟨i, hi, rfl⟩ := List.mem_map.1 hy
  have hi2 : i < 1 := List.mem_range.1 hi
  obtain rfl : i = 0 := by omega
  show blkE (aloneU x) (aloneF x) 0 ⟨[], aloneI x, ⟨1, false, 0, []⟩⟩ = 0
  unfold blkE
  have hp : firstE (([] : List PhiL).map (phiL (aloneF x) 0 (rowOf (waysL (aloneF x)) 0).length)) = 0 := rfl
  dsimp only
  rw [if_pos hp]
  refine firstE_zero fun y hy => ?_
  obtain ⟨i, hi, rfl⟩ := List.mem_map.1 hy
  have hi : i ∈ aloneI x := hi
  unfold aloneI at hi
  simp only [List.mem_cons, List.not_mem_nil, or_false] at hi
  rcases hi with rfl | rfl | rfl | rfl
  · rfl
  · rfl
  · exact h
  · rfl
theorem alone_chk {x : InsL} (h : insL (aloneU x) (aloneF x) x = 0) : (chk (aloneU x)).1 = 0 := by
  unfold chk chkO
  rw [if_neg (by show ¬(10 < 0 ∨ 10 < 1); omega)]
  rw [firstAt_none (n := (aloneU x).globals.length) (fun j hj => absurd hj (by show ¬ j < 0; omega))]
  dsimp only
  rw [firstAt_none (n := (aloneU x).funcs.length) (g := headI (aloneU x)) (fun j hj => by
    have : j < 1 := hj
    obtain rfl : j = 0 := by omega
    exact alone_head x)]
  dsimp only
  rw [firstAt_none (n := (aloneU x).funcs.length) (g := bodyI (aloneU x)) (fun j hj => by
    have : j < 1 := hj
    obtain rfl : j = 0 := by omega
    exact alone_body h)]
  dsimp only
  rw [alone_main]
  dsimp only
  rw [if_neg (by show ¬ (0 : Int) < 0; omega)]
  rfl
/-- what the check asks of the instruction -/
theorem alone_ins {x : InsL} (h : (chk (aloneU x)).1 = 0) : insL (aloneU x) (aloneF x) x = 0 :=
  (bodyE_blk ((chk_ok h).2.bodyZ (k := 0) (show 0 < 1 by omega)) (b := 0) (show 0 < 1 by omega)).2 x (by show x ∈ aloneI x; simp [aloneI])

theorem alone_mainI (x : InsL) : mainI (aloneU x).funcs = some 0 := alone_main x
theorem insS_reck {u : UniL} {s : StL} {x : InsL} (h : 1 ≤ x.op ∧ x.op ≤ 17) :
    insS u s x = if (twoL x.op (valL (topR s) x.ar x.an) (valL (topR s) x.br x.bn)).2 = false then ({ s with state := 2 }, false) else (putS s x.dst (twoL x.op (valL (topR s) x.ar x.an) (valL (topR s) x.br x.bn)).1, true) := by
  unfold insS
  rw [if_neg (by omega), if_neg (by omega), if_neg (by omega), if_neg (by omega)]
/-- what the run comes to: by what the instruction comes to -/
def loneO (m : Int × Bool) : Int × Int × List Int × Nat := if m.2 = false then (2, 0, [], 3) else (0, 0, [m.1], 5)
def comesO (s : StL) : Int × Int × List Int × Nat := (s.state, s.value, s.outs, s.steps)
theorem goS_go {u : UniL} {n : Nat} {s s' : StL} (h : stepS u s = (s', true)) : goS u (n + 1) s = goS u n s' := by
  rw [goS, h]; rfl
theorem goS_end {u : UniL} {n : Nat} {s s' : StL} (h : stepS u s = (s', false)) : goS u (n + 1) s = s' := by
  rw [goS, h]; rfl
theorem alone_run {x : InsL} (hx : Lone x) (a b : Int) : comesO (runU (aloneU x) [a, b] 9) = loneO (twoL x.op (valL [a, b, 0] x.ar x.an) (valL [a, b, 0] x.br x.bn)) := by
  let c0 : Nat → Nat → Int := bump (fun _ _ => 0) 0 0
  have e0 : startS (aloneU x) [a, b] ((mainI (aloneU x).funcs).getD 0) = ⟨[], [a, b], 0, 0, [], 0, [⟨0, 0, 0, [0, 0, 0], -1⟩], c0⟩ := by
    have hm : (mainI (aloneU x).funcs).getD 0 = 0 := by rw [alone_mainI]; rfl
    rw [hm]
    rfl
  have e1 : stepS (aloneU x) ⟨[], [a, b], 0, 0, [], 0, [⟨0, 0, 0, [0, 0, 0], -1⟩], c0⟩ = (⟨[], [b], 0, 0, [], 1, [⟨0, 0, 1, [a, 0, 0], -1⟩], c0⟩, true) := rfl
  have e2 : stepS (aloneU x) ⟨[], [b], 0, 0, [], 1, [⟨0, 0, 1, [a, 0, 0], -1⟩], c0⟩ = (⟨[], [], 0, 0, [], 2, [⟨0, 0, 2, [a, b, 0], -1⟩], c0⟩, true) := rfl
  have e3 : stepS (aloneU x) ⟨[], [], 0, 0, [], 2, [⟨0, 0, 2, [a, b, 0], -1⟩], c0⟩ = insS (aloneU x) ⟨[], [], 0, 0, [], 3, [⟨0, 0, 3, [a, b, 0], -1⟩], c0⟩ x := rfl
  unfold runU
  rw [e0, goS_go e1, goS_go e2]
  rw [insS_reck hx.op] at e3
  have et : topR ⟨[], [], 0, 0, [], 3, [⟨0, 0, 3, [a, b, 0], -1⟩], c0⟩ = [a, b, 0] := rfl
  rw [et] at e3
  generalize twoL x.op (valL [a, b, 0] x.ar x.an) (valL [a, b, 0] x.br x.bn) = m at *
  obtain ⟨n, k⟩ := m
  cases k with
  | false =>
    rw [if_pos rfl] at e3
    rw [goS_end e3]
    rfl
  | true =>
    rw [if_neg (by simp), hx.dst] at e3
    have e4 : putS ⟨[], [], 0, 0, [], 3, [⟨0, 0, 3, [a, b, 0], -1⟩], c0⟩ 2 n = ⟨[], [], 0, 0, [], 3, [⟨0, 0, 3, [a, b, n], -1⟩], c0⟩ := rfl
    rw [e4] at e3
    have e5 : stepS (aloneU x) ⟨[], [], 0, 0, [], 3, [⟨0, 0, 3, [a, b, n], -1⟩], c0⟩ = (⟨[], [], 0, 0, [n], 4, [⟨0, 0, 4, [a, b, n], -1⟩], c0⟩, true) := rfl
    have e6 : stepS (aloneU x) ⟨[], [], 0, 0, [n], 4, [⟨0, 0, 4, [a, b, n], -1⟩], c0⟩ = (⟨[], [], 0, 0, [n], 5, [], c0⟩, false) := rfl
    rw [goS_go e3, goS_go e5, goS_end e6]
    rfl
/-- the two runs of the law -/
theorem alone_same {op an bn : Int} {ar br : Bool} {ap : Option Addr} {al ac : Nat} (h : Lone (instL ⟨op, 2, ar, an, br, bn, 0, ap, al, ac⟩ [])) (ha : I64 an) (hb : I64 bn) {a b : Int} (hA : I64 a) (hB : I64 b) :
    comesO (runU (aloneU (instL (oneI op 2 an bn 0 ar br ap al ac) [])) [a, b] 9) = comesO (runU (aloneU (instL ⟨op, 2, ar, an, br, bn, 0, ap, al, ac⟩ [])) [a, b] 9) := by
  rw [alone_run (lone_one h), alone_run h]
  have hr : ∀ r n, I64 n → I64 (valL [a, b, 0] r n) := fun r n hn => valL_i64 (fun y hy => by
    simp only [List.mem_cons, List.not_mem_nil, or_false] at hy
    rcases hy with rfl | rfl | rfl
    · exact hA
    · exact hB
    · exact I64.zero) hn
  exact congrArg loneO (mean_one (rs := [a, b, 0]) hr h.op ha hb)
end Go.Proofs.YtlalmbklhmpngaaDoor
namespace Go.Proofs.YtlalmbklhmpngaaDoor
open Go.RowKit

/-- where such a program lies -/
structure AloneAt (W : World) (b1 b2 b3 : Nat) (x : InsL) (ap : Option Addr) (al ac : Nat) : Prop where
  f : ∃ T, W.heap[b1]? = some (.cells #[.string ⟨#[109, 97, 105, 110]⟩, .int .i64 0, .int .i64 3, .slice (some ⟨b2, 0, none⟩) 1 1] T (0, 0))
  b : ∃ T, W.heap[b2]? = some (.cells #[.slice none 0 0, .slice (some ⟨b3, 0, none⟩) 4 4, .int .i64 1, .bool false, .int .i64 0, .slice none 0 0] T (0, 0))
  l : ∃ T, W.heap[b3]? = some (.cells #[.int .i64 21, .int .i64 0, .bool false, .int .i64 0, .bool false, .int .i64 0, .int .i64 0, .slice none 0 0, .int .i64 21, .int .i64 1, .bool false, .int .i64 0, .bool false, .int .i64 0, .int .i64 0, .slice none 0 0,
    .int .i64 x.op, .int .i64 x.dst, .bool x.ar, .int .i64 x.an, .bool x.br, .int .i64 x.bn, .int .i64 x.fn, .slice ap al ac, .int .i64 22, .int .i64 (-1), .bool true, .int .i64 2, .bool false, .int .i64 0, .int .i64 0, .slice none 0 0] T (0, 0))
theorem AloneAt.below {W W' : World} {b1 b2 b3 : Nat} {x : InsL} {ap : Option Addr} {al ac : Nat} (h : AloneAt W b1 b2 b3 x ap al ac) (hb : Below W.heap.size W W') : AloneAt W' b1 b2 b3 x ap al ac := by
  obtain ⟨⟨T1, h1⟩, ⟨T2, h2⟩, ⟨T3, h3⟩⟩ := h
  exact ⟨⟨T1, heap_below hb (Array.getElem?_eq_some_iff.1 h1).1 h1⟩, ⟨T2, heap_below hb (Array.getElem?_eq_some_iff.1 h2).1 h2⟩, ⟨T3, heap_below hb (Array.getElem?_eq_some_iff.1 h3).1 h3⟩⟩
theorem alone_un {W : World} {b1 b2 b3 : Nat} {x : InsL} {ap : Option Addr} {ac : Nat} (h : AloneAt W b1 b2 b3 x ap x.args.length ac) (hw : Ways W) (i1 : I64 x.op) (i2 : I64 x.dst) (i3 : I64 x.an) (i4 : I64 x.bn) (i5 : I64 x.fn) (hs : SlF W 2 16 ValR (.slice ap x.args.length ac) x.args) :
    UnA (aloneU x) none (some ⟨b1, 0, none⟩) W := by
  obtain ⟨⟨T1, h1⟩, ⟨T2, h2⟩, ⟨T3, h3⟩⟩ := h
  have hnil : ∀ {α : Type} (size bytes : Nat) (R : List Value → α → Prop), SlF W size bytes R (.slice none 0 0) ([] : List α) := fun size bytes R => ⟨none, 0, rfl, fun _ => ⟨rfl, rfl⟩, Nat.le_refl _, by simp, .inl rfl⟩
  have i64 : ∀ n : Int, -100 ≤ n → n ≤ 100 → I64 n := fun n _ _ => by unfold I64; omega
  have hi : SliceAt W 8 (InsR W) (some ⟨b3, 0, none⟩) (aloneI x) := by
    refine .inr ⟨b3, 0, rfl, fun i hi => ?_⟩
    have hi3 : i < 4 := hi
    match i, hi3 with
    | 0, _ => exact ⟨[.int .i64 21, .int .i64 0, .bool false, .int .i64 0, .bool false, .int .i64 0, .int .i64 0, .slice none 0 0], rfl, fun j hj => by rw [(blk h3).1]; match j, hj with | 0, _ | 1, _ | 2, _ | 3, _ | 4, _ | 5, _ | 6, _ | 7, _ => rfl, ⟨_, rfl, i64 21 (by decide) (by decide), i64 0 (by decide) (by decide), i64 0 (by decide) (by decide), i64 0 (by decide) (by decide), i64 0 (by decide) (by decide), hnil _ _ _⟩⟩
    | 1, _ => exact ⟨[.int .i64 21, .int .i64 1, .bool false, .int .i64 0, .bool false, .int .i64 0, .int .i64 0, .slice none 0 0], rfl, fun j hj => by rw [(blk h3).1]; match j, hj with | 0, _ | 1, _ | 2, _ | 3, _ | 4, _ | 5, _ | 6, _ | 7, _ => rfl, ⟨_, rfl, i64 21 (by decide) (by decide), i64 1 (by decide) (by decide), i64 0 (by decide) (by decide), i64 0 (by decide) (by decide), i64 0 (by decide) (by decide), hnil _ _ _⟩⟩
    | 2, _ => exact ⟨[.int .i64 x.op, .int .i64 x.dst, .bool x.ar, .int .i64 x.an, .bool x.br, .int .i64 x.bn, .int .i64 x.fn, .slice ap x.args.length ac], rfl, fun j hj => by rw [(blk h3).1]; match j, hj with | 0, _ | 1, _ | 2, _ | 3, _ | 4, _ | 5, _ | 6, _ | 7, _ => rfl, ⟨_, rfl, i1, i2, i3, i4, i5, hs⟩⟩
    | 3, _ => exact ⟨[.int .i64 22, .int .i64 (-1), .bool true, .int .i64 2, .bool false, .int .i64 0, .int .i64 0, .slice none 0 0], rfl, fun j hj => by rw [(blk h3).1]; match j, hj with | 0, _ | 1, _ | 2, _ | 3, _ | 4, _ | 5, _ | 6, _ | 7, _ => rfl, ⟨_, rfl, i64 22 (by decide) (by decide), i64 (-1) (by decide) (by decide), i64 2 (by decide) (by decide), i64 0 (by decide) (by decide), i64 0 (by decide) (by decide), hnil _ _ _⟩⟩
  have hb : SliceAt W 6 (BlkR W) (some ⟨b2, 0, none⟩) [(⟨[], aloneI x, ⟨1, false, 0, []⟩⟩ : BlkL)] := by
    refine .inr ⟨b2, 0, rfl, fun i hi0 => ?_⟩
    have hi1 : i < 1 := hi0
    match i, hi1 with
    | 0, _ => exact ⟨[.slice none 0 0, .slice (some ⟨b3, 0, none⟩) 4 4, .int .i64 1, .bool false, .int .i64 0, .slice none 0 0], rfl, fun j hj => by rw [(blk h2).1]; match j, hj with | 0, _ | 1, _ | 2, _ | 3, _ | 4, _ | 5, _ => rfl, ⟨_, _, _, rfl, i64 1 (by decide) (by decide), i64 0 (by decide) (by decide), hnil _ _ _, ⟨some ⟨b3, 0, none⟩, 4, rfl, (fun h => by cases h), Nat.le_refl _, (by show 4 * 80 ≤ reachBytes; decide), hi⟩, hnil _ _ _⟩⟩
  refine ⟨(by show 0 * 48 ≤ _; omega), .inl rfl, (by show 1 * 56 ≤ _; omega), .inr ⟨b1, 0, rfl, fun i hi0 => ?_⟩, hw⟩
  have hi1 : i < 1 := hi0
  match i, hi1 with
  | 0, _ => exact ⟨[.string ⟨#[109, 97, 105, 110]⟩, .int .i64 0, .int .i64 3, .slice (some ⟨b2, 0, none⟩) 1 1], rfl, fun j hj => by rw [(blk h1).1]; match j, hj with | 0, _ | 1, _ | 2, _ | 3, _ => rfl, ⟨_, rfl, (by decide : (⟨#[109, 97, 105, 110]⟩ : ByteArray).size ≤ reachBytes), i64 0 (by decide) (by decide), i64 3 (by decide) (by decide), ⟨some ⟨b2, 0, none⟩, 1, rfl, (fun h => by cases h), Nat.le_refl _, (by show 1 * 96 ≤ reachBytes; decide), hb⟩⟩⟩

set_option maxRecDepth 100000 in
set_option maxHeartbeats 1000000 in
theorem alone_any (x : InsL) (ap : Option Addr) (al ac : Nat) (w : World) :
    Calls Tryd.prog 17 #[.agg #[.int .i64 x.op, .int .i64 x.dst, .bool x.ar, .int .i64 x.an, .bool x.br, .int .i64 x.bn, .int .i64 x.fn, .slice ap al ac]] w fun e w' => ∃ b1 b2 b3, e = .returned (.agg #[.slice none 0 0, .slice (some ⟨b1, 0, none⟩) 1 1]) ∧ AloneAt w' b1 b2 b3 x ap al ac ∧ w.heap.size ≤ b1 ∧ Below w.heap.size w w' := by
  go_enter Tryd.func17, Tryd.ntmps17
  go_wp2_with fail
  refine bodyPost_ret (v := .agg #[.slice none 0 0, .slice (some ⟨w.heap.size + 1 + 1 + 1 + 1 + 1, 0, none⟩) 1 1]) (by simp [results, Tryd.results17, go_sem]) rfl ⟨w.heap.size + 1 + 1 + 1 + 1 + 1, w.heap.size + 1 + 1 + 1 + 1, w.heap.size + 1 + 1, rfl, ⟨⟨55, ?_⟩, ⟨78, ?_⟩, ⟨26, ?_⟩⟩, by omega, ?_⟩
  · exact heap_at (by simp)
  · exact heap_step (heap_at (by simp))
  · exact heap_step (heap_step (heap_step (heap_at (by simp))))
  · repeat (first | with_reducible exact Below.refl _ _ | with_reducible exact HB3.out | with_reducible refine Below.drew ?_ | with_reducible refine below_drewN ?_ _ | with_reducible refine Below.setCell ?_ ?_ _ | with_reducible refine Below.alloc ?_ ?_ _ | with_reducible exact HB2.out | with_reducible exact HB1.out | with_reducible refine Below.trans ?_ (Below.mono hb3 ?_) | with_reducible refine Below.trans ?_ (Below.mono hb5 ?_) | with_reducible refine Below.trans ?_ (Below.mono hb4 ?_) | omega | (simp; omega) | simp)
end Go.Proofs.YtlalmbklhmpngaaDoor
