/-
  How a value and an instruction that came in read as data.
-/
import Derived.Test.YteckkdmgkikeaaaDatA
namespace Go.Proofs.Yteckkdmgkikeaaa
open Go.RowKit Go.ChangeShapes Go.WideShapes Go.ChangeAt

theorem I64.of_wf {n : Int} (h : (Lit.int .i64 n).wf = true) : I64 n := by
  simp only [Lit.wf, IntKind.min, IntKind.max, IntKind.signed, IntKind.bits, Bool.and_eq_true, decide_eq_true_eq, if_true] at h
  unfold I64
  omega

/-- a value: is it a register, and its number -/
def ValR (cs : List Value) (v : Bool × Int) : Prop := cs = [.bool v.1, .int .i64 v.2] ∧ I64 v.2

theorem cellsVal : Try.prog.cellsOf 23 = 2 := by kernel_rfl
theorem bytesVal : Try.prog.bytesOf 23 = 16 := by kernel_rfl
theorem cellsBool : Try.prog.cellsOf 4 = 1 := by kernel_rfl
theorem cellsInt : Try.prog.cellsOf 3 = 1 := by kernel_rfl
theorem cellsVals : Try.prog.cellsOf 24 = 1 := by kernel_rfl
theorem cellsIns : Try.prog.cellsOf 26 = 8 := by kernel_rfl

section
variable {H : Type} {enc : TypeId × Value → H} {w : World} {fuel : Nat} {cs : List Value} {d : DataW H} {ps : List MemPlace}

theorem two_of_length {α : Type} {l : List α} (h : l.length = 2) : ∃ a b, l = [a, b] := by
  match l, h with
  | [a, b], _ => exact ⟨a, b, rfl⟩

theorem rd_val (h : DataW.trod enc Try.prog w 0 (fun _ => true) true fuel 23 cs = some (d, ps)) : ∃ v, ValR cs v := by
  obtain ⟨xs, n, _, _, hlen, hxl, hf⟩ := DataW.trod_struct Try.underlying23 h
  rw [cellsVal] at hlen
  obtain ⟨c0, c1, rfl⟩ := two_of_length hlen
  obtain ⟨x0, x1, rfl⟩ := two_of_length (by simpa using hxl)
  have h0 : DataW.trod enc Try.prog w 0 (fun _ => true) true n 4 (([c0, c1].drop 0).take (Try.prog.cellsOf 4)) = some x0 := hf 0 _ rfl
  rw [cellsBool] at h0
  have h1 : DataW.trod enc Try.prog w 0 (fun _ => true) true n 3 (([c0, c1].drop 1).take (Try.prog.cellsOf 3)) = some x1 := hf 1 _ rfl
  rw [cellsInt] at h1
  obtain ⟨r, e0, _⟩ := DataW.trod_bool Try.underlying4 h0
  obtain ⟨k, e1, _, wk⟩ := DataW.trod_int Try.underlying3 h1
  simp at e0 e1
  subst e0 e1
  exact ⟨(r, k), rfl, I64.of_wf wk⟩
theorem eight_of_length {α : Type} {l : List α} (h : l.length = 8) : ∃ a b c d e f g i, l = [a, b, c, d, e, f, g, i] := by
  match l, h with
  | [a, b, c, d, e, f, g, i], _ => exact ⟨a, b, c, d, e, f, g, i, rfl⟩
theorem six_of_length {α : Type} {l : List α} (h : l.length = 6) : ∃ a b c d e f, l = [a, b, c, d, e, f] := by
  match l, h with
  | [a, b, c, d, e, f], _ => exact ⟨a, b, c, d, e, f, rfl⟩
end
/-- an instruction that came in, all of it -/
structure InsL where
  op : Int
  dst : Int
  ar : Bool
  an : Int
  br : Bool
  bn : Int
  fn : Int
  args : List (Bool × Int)
def InsR (w : World) (cs : List Value) (i : InsL) : Prop := ∃ p c, cs = [.int .i64 i.op, .int .i64 i.dst, .bool i.ar, .int .i64 i.an, .bool i.br, .int .i64 i.bn, .int .i64 i.fn, .slice p i.args.length c] ∧
  I64 i.op ∧ I64 i.dst ∧ I64 i.an ∧ I64 i.bn ∧ I64 i.fn ∧ (p = none → i.args.length = 0 ∧ c = 0) ∧ i.args.length ≤ c ∧ c * 16 ≤ reachBytes ∧ SliceAt w 2 ValR p i.args

section
variable {H : Type} {enc : TypeId × Value → H} {w : World} {fuel : Nat} {cs : List Value} {d : DataW H} {ps : List MemPlace}
theorem rd_ins (h : DataW.trod enc Try.prog w 0 (fun _ => true) true fuel 26 cs = some (d, ps)) (hw : ∀ k ∈ d.weights Try.prog 26, k ≤ reachBytes) : ∃ i, InsR w cs i := by
  obtain ⟨xs, n, _, hx, hlen, hxl, hf⟩ := DataW.trod_struct Try.underlying26 h
  simp only [Prod.mk.injEq] at hx
  obtain ⟨rfl, _⟩ := hx
  rw [cellsIns] at hlen
  obtain ⟨c0, c1, c2, c3, c4, c5, c6, c7, rfl⟩ := eight_of_length hlen
  obtain ⟨x0, x1, x2, x3, x4, x5, rfl⟩ := six_of_length (by simpa using hxl)
  have h0 : DataW.trod enc Try.prog w 0 (fun _ => true) true n 3 (([c0, c1, c2, c3, c4, c5, c6, c7].drop 0).take (Try.prog.cellsOf 3)) = some x0 := hf 0 _ rfl
  rw [cellsInt] at h0
  have h1 : DataW.trod enc Try.prog w 0 (fun _ => true) true n 3 (([c0, c1, c2, c3, c4, c5, c6, c7].drop 1).take (Try.prog.cellsOf 3)) = some x1 := hf 1 _ rfl
  rw [cellsInt] at h1
  have h2 : DataW.trod enc Try.prog w 0 (fun _ => true) true n 23 (([c0, c1, c2, c3, c4, c5, c6, c7].drop 2).take (Try.prog.cellsOf 23)) = some x2 := hf 2 _ rfl
  rw [cellsVal] at h2
  have h3 : DataW.trod enc Try.prog w 0 (fun _ => true) true n 23 (([c0, c1, c2, c3, c4, c5, c6, c7].drop 4).take (Try.prog.cellsOf 23)) = some x3 := hf 3 _ rfl
  rw [cellsVal] at h3
  have h4 : DataW.trod enc Try.prog w 0 (fun _ => true) true n 3 (([c0, c1, c2, c3, c4, c5, c6, c7].drop 6).take (Try.prog.cellsOf 3)) = some x4 := hf 4 _ rfl
  rw [cellsInt] at h4
  have h5 : DataW.trod enc Try.prog w 0 (fun _ => true) true n 24 (([c0, c1, c2, c3, c4, c5, c6, c7].drop 7).take (Try.prog.cellsOf 24)) = some x5 := hf 5 _ rfl
  rw [cellsVals] at h5
  obtain ⟨k0, e0, _, w0⟩ := DataW.trod_int Try.underlying3 h0
  obtain ⟨k1, e1, _, w1⟩ := DataW.trod_int Try.underlying3 h1
  obtain ⟨v2, e2, w2⟩ := rd_val (d := x2.1) (ps := x2.2) h2
  obtain ⟨v3, e3, w3⟩ := rd_val (d := x3.1) (ps := x3.2) h3
  obtain ⟨k4, e4, _, w4⟩ := DataW.trod_int Try.underlying3 h4
  have hw5 : ∀ k ∈ x5.1.weights Try.prog 24, k ≤ reachBytes := by
    intro k hk
    refine hw k ?_
    unfold DataW.weights
    rw [Try.underlying26]
    simp only [List.map_cons, List.map_nil, DataW.weightsEach]
    simp [hk]
  obtain ⟨p, c, vs, e5, hp, hc, hr, hs⟩ := rd_slice (R := ValR) Try.underlying24 cellsVal bytesVal (by omega) (fun _ _ _ _ hh _ => rd_val hh) (d := x5.1) (ps := x5.2) h5 hw5
  simp at e0 e1 e2 e3 e4 e5
  obtain ⟨rfl, rfl⟩ := e2
  obtain ⟨rfl, rfl⟩ := e3
  subst e0 e1 e4 e5
  exact ⟨⟨k0, k1, v2.1, v2.2, v3.1, v3.2, k4, vs⟩, p, c, rfl, I64.of_wf w0, I64.of_wf w1, w2, w3, I64.of_wf w4, hp, hc, hr, hs⟩
end
end Go.Proofs.Yteckkdmgkikeaaa
