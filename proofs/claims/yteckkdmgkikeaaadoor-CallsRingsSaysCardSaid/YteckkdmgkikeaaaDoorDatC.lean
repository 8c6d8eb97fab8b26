/-
  How a whole unit that came in reads as data: globals, functions, blocks, instructions.
-/
import Derived.Test.YteckkdmgkikeaaaDoorDatA
namespace Go.Proofs.YteckkdmgkikeaaaDoor
open Go.RowKit Go.ChangeShapes Go.WideShapes Go.ChangeAt

theorem I64.of_wf {n : Int} (h : (Lit.int .i64 n).wf = true) : I64 n := by
  simp only [Lit.wf, IntKind.min, IntKind.max, IntKind.signed, IntKind.bits, Bool.and_eq_true, decide_eq_true_eq, if_true] at h
  unfold I64
  omega

/-- a value: is it a register, and its number -/
def ValR (cs : List Value) (v : Bool × Int) : Prop := cs = [.bool v.1, .int .i64 v.2] ∧ I64 v.2
def IntR (cs : List Value) (n : Int) : Prop := cs = [.int .i64 n] ∧ I64 n
/-- a slice in a field: its value, and its elements -/
def SlF {α : Type} (w : World) (size bytes : Nat) (R : List Value → α → Prop) (v : Value) (xs : List α) : Prop :=
  ∃ p c, v = .slice p xs.length c ∧ (p = none → xs.length = 0 ∧ c = 0) ∧ xs.length ≤ c ∧ c * bytes ≤ reachBytes ∧ SliceAt w size R p xs

/-- an instruction that came in, all of it -/
structure InsL where
  op : Int
  dst : Int
  ar : Bool
  an : Int
  br : Bool
  bn : Int
  fn : Int
  args : List (Bool × Int)
structure PhiL where
  dst : Int
  src : List (Bool × Int)
structure EndL where
  kind : Int
  onr : Bool
  onn : Int
  to : List Int
structure BlkL where
  phis : List PhiL
  list : List InsL
  fin : EndL
structure FunL where
  name : ByteArray
  params : Int
  regs : Int
  blocks : List BlkL
structure GloL where
  name : ByteArray
  size : Int
  init : List Int
structure UniL where
  globals : List GloL
  funcs : List FunL

def InsR (w : World) (cs : List Value) (i : InsL) : Prop := ∃ v, cs = [.int .i64 i.op, .int .i64 i.dst, .bool i.ar, .int .i64 i.an, .bool i.br, .int .i64 i.bn, .int .i64 i.fn, v] ∧
  I64 i.op ∧ I64 i.dst ∧ I64 i.an ∧ I64 i.bn ∧ I64 i.fn ∧ SlF w 2 16 ValR v i.args
def PhiR (w : World) (cs : List Value) (x : PhiL) : Prop := ∃ v, cs = [.int .i64 x.dst, v] ∧ I64 x.dst ∧ SlF w 2 16 ValR v x.src
def EndR (w : World) (cs : List Value) (x : EndL) : Prop := ∃ v, cs = [.int .i64 x.kind, .bool x.onr, .int .i64 x.onn, v] ∧ I64 x.kind ∧ I64 x.onn ∧ SlF w 1 8 IntR v x.to
def BlkR (w : World) (cs : List Value) (x : BlkL) : Prop := ∃ v1 v2 v3, cs = [v1, v2, .int .i64 x.fin.kind, .bool x.fin.onr, .int .i64 x.fin.onn, v3] ∧ I64 x.fin.kind ∧ I64 x.fin.onn ∧
  SlF w 2 32 (PhiR w) v1 x.phis ∧ SlF w 8 80 (InsR w) v2 x.list ∧ SlF w 1 8 IntR v3 x.fin.to
def FunR (w : World) (cs : List Value) (x : FunL) : Prop := ∃ v, cs = [.string x.name, .int .i64 x.params, .int .i64 x.regs, v] ∧ x.name.size ≤ reachBytes ∧ I64 x.params ∧ I64 x.regs ∧ SlF w 6 96 (BlkR w) v x.blocks
def GloR (w : World) (cs : List Value) (x : GloL) : Prop := ∃ v, cs = [.string x.name, .int .i64 x.size, v] ∧ x.name.size ≤ reachBytes ∧ I64 x.size ∧ SlF w 1 8 IntR v x.init
def UniR (w : World) (cs : List Value) (x : UniL) : Prop := ∃ v1 v2, cs = [v1, v2] ∧ SlF w 3 48 (GloR w) v1 x.globals ∧ SlF w 4 56 (FunR w) v2 x.funcs

theorem cellsVal : Tryd.prog.cellsOf 38 = 2 := by kernel_rfl
theorem cellsBool : Tryd.prog.cellsOf 4 = 1 := by kernel_rfl
theorem cellsInt : Tryd.prog.cellsOf 3 = 1 := by kernel_rfl
theorem cellsStr : Tryd.prog.cellsOf 9 = 1 := by kernel_rfl
theorem cellsVals : Tryd.prog.cellsOf 45 = 1 := by kernel_rfl
theorem cellsInts : Tryd.prog.cellsOf 39 = 1 := by kernel_rfl
theorem cellsIns : Tryd.prog.cellsOf 47 = 8 := by kernel_rfl
theorem cellsInss : Tryd.prog.cellsOf 36 = 1 := by kernel_rfl
theorem cellsPhi : Tryd.prog.cellsOf 118 = 2 := by kernel_rfl
theorem cellsPhis : Tryd.prog.cellsOf 35 = 1 := by kernel_rfl
theorem cellsEnd : Tryd.prog.cellsOf 41 = 4 := by kernel_rfl
theorem cellsBlk : Tryd.prog.cellsOf 43 = 6 := by kernel_rfl
theorem cellsBlks : Tryd.prog.cellsOf 32 = 1 := by kernel_rfl
theorem cellsFun : Tryd.prog.cellsOf 34 = 4 := by kernel_rfl
theorem cellsFuns : Tryd.prog.cellsOf 23 = 1 := by kernel_rfl
theorem cellsGlo : Tryd.prog.cellsOf 93 = 3 := by kernel_rfl
theorem cellsGlos : Tryd.prog.cellsOf 22 = 1 := by kernel_rfl
theorem cellsUni : Tryd.prog.cellsOf 25 = 2 := by kernel_rfl
theorem bytesVal : Tryd.prog.bytesOf 38 = 16 := by kernel_rfl
theorem bytesInt : Tryd.prog.bytesOf 3 = 8 := by kernel_rfl
theorem bytesIns : Tryd.prog.bytesOf 47 = 80 := by kernel_rfl
theorem bytesPhi : Tryd.prog.bytesOf 118 = 32 := by kernel_rfl
theorem bytesBlk : Tryd.prog.bytesOf 43 = 96 := by kernel_rfl
theorem bytesFun : Tryd.prog.bytesOf 34 = 56 := by kernel_rfl
theorem bytesGlo : Tryd.prog.bytesOf 93 = 48 := by kernel_rfl
theorem len_2 {α : Type} {l : List α} (hl : l.length = 2) : ∃ a b, l = [a, b] := by
  match l, hl with
  | [a, b], _ => exact ⟨a, b, rfl⟩
theorem len_3 {α : Type} {l : List α} (hl : l.length = 3) : ∃ a b c, l = [a, b, c] := by
  match l, hl with
  | [a, b, c], _ => exact ⟨a, b, c, rfl⟩
theorem len_4 {α : Type} {l : List α} (hl : l.length = 4) : ∃ a b c d, l = [a, b, c, d] := by
  match l, hl with
  | [a, b, c, d], _ => exact ⟨a, b, c, d, rfl⟩
theorem len_6 {α : Type} {l : List α} (hl : l.length = 6) : ∃ a b c d e f, l = [a, b, c, d, e, f] := by
  match l, hl with
  | [a, b, c, d, e, f], _ => exact ⟨a, b, c, d, e, f, rfl⟩
theorem len_8 {α : Type} {l : List α} (hl : l.length = 8) : ∃ a b c d e f g h, l = [a, b, c, d, e, f, g, h] := by
  match l, hl with
  | [a, b, c, d, e, f, g, h], _ => exact ⟨a, b, c, d, e, f, g, h, rfl⟩

section
variable {H : Type} {enc : TypeId × Value → H} {w : World} {fuel : Nat} {cs : List Value} {d : DataW H} {ps : List MemPlace}
theorem rd_int (h : DataW.trod enc Tryd.prog w 0 (fun _ => true) true fuel 3 cs = some (d, ps)) : ∃ n, IntR cs n := by
  obtain ⟨k, e, _, wk⟩ := DataW.trod_int Tryd.underlying3 h
  exact ⟨k, e, I64.of_wf wk⟩
theorem rd_val (h : DataW.trod enc Tryd.prog w 0 (fun _ => true) true fuel 38 cs = some (d, ps)) : ∃ x, ValR cs x := by
  obtain ⟨xs, n, _, hx, hlen, hxl, hf⟩ := DataW.trod_struct Tryd.underlying38 h
  simp only [Prod.mk.injEq] at hx
  obtain ⟨rfl, _⟩ := hx
  rw [cellsVal] at hlen
  obtain ⟨c0, c1, rfl⟩ := len_2 hlen
  obtain ⟨x0, x1, rfl⟩ := len_2 (show xs.length = 2 by simpa using hxl)
  have h0 : DataW.trod enc Tryd.prog w 0 (fun _ => true) true n 4 (([c0, c1].drop 0).take (Tryd.prog.cellsOf 4)) = some x0 := hf 0 _ rfl
  rw [cellsBool] at h0
  have h1 : DataW.trod enc Tryd.prog w 0 (fun _ => true) true n 3 (([c0, c1].drop 1).take (Tryd.prog.cellsOf 3)) = some x1 := hf 1 _ rfl
  rw [cellsInt] at h1
  obtain ⟨k0, e0, _⟩ := DataW.trod_bool Tryd.underlying4 h0
  obtain ⟨k1, e1, _, w1⟩ := DataW.trod_int Tryd.underlying3 h1
  simp at e0 e1
  subst e0 e1
  exact ⟨(k0, k1), rfl, I64.of_wf w1⟩
theorem rd_ins (h : DataW.trod enc Tryd.prog w 0 (fun _ => true) true fuel 47 cs = some (d, ps)) (hw : ∀ k ∈ d.weights Tryd.prog 47, k ≤ reachBytes) : ∃ x, InsR w cs x := by
  obtain ⟨xs, n, _, hx, hlen, hxl, hf⟩ := DataW.trod_struct Tryd.underlying47 h
  simp only [Prod.mk.injEq] at hx
  obtain ⟨rfl, _⟩ := hx
  rw [cellsIns] at hlen
  obtain ⟨c0, c1, c2, c3, c4, c5, c6, c7, rfl⟩ := len_8 hlen
  obtain ⟨x0, x1, x2, x3, x4, x5, rfl⟩ := len_6 (show xs.length = 6 by simpa using hxl)
  have h0 : DataW.trod enc Tryd.prog w 0 (fun _ => true) true n 3 (([c0, c1, c2, c3, c4, c5, c6, c7].drop 0).take (Tryd.prog.cellsOf 3)) = some x0 := hf 0 _ rfl
  rw [cellsInt] at h0
  have h1 : DataW.trod enc Tryd.prog w 0 (fun _ => true) true n 3 (([c0, c1, c2, c3, c4, c5, c6, c7].drop 1).take (Tryd.prog.cellsOf 3)) = some x1 := hf 1 _ rfl
  rw [cellsInt] at h1
  have h2 : DataW.trod enc Tryd.prog w 0 (fun _ => true) true n 38 (([c0, c1, c2, c3, c4, c5, c6, c7].drop 2).take (Tryd.prog.cellsOf 38)) = some x2 := hf 2 _ rfl
  rw [cellsVal] at h2
  have h3 : DataW.trod enc Tryd.prog w 0 (fun _ => true) true n 38 (([c0, c1, c2, c3, c4, c5, c6, c7].drop 4).take (Tryd.prog.cellsOf 38)) = some x3 := hf 3 _ rfl
  rw [cellsVal] at h3
  have h4 : DataW.trod enc Tryd.prog w 0 (fun _ => true) true n 3 (([c0, c1, c2, c3, c4, c5, c6, c7].drop 6).take (Tryd.prog.cellsOf 3)) = some x4 := hf 4 _ rfl
  rw [cellsInt] at h4
  have h5 : DataW.trod enc Tryd.prog w 0 (fun _ => true) true n 45 (([c0, c1, c2, c3, c4, c5, c6, c7].drop 7).take (Tryd.prog.cellsOf 45)) = some x5 := hf 5 _ rfl
  rw [cellsVals] at h5
  have hw5 : ∀ k ∈ x5.1.weights Tryd.prog 45, k ≤ reachBytes := by
    intro k hk
    refine hw k ?_
    unfold DataW.weights
    rw [Tryd.underlying47]
    simp only [List.map_cons, List.map_nil, DataW.weightsEach]
    simp [hk]
  obtain ⟨k0, e0, _, w0⟩ := DataW.trod_int Tryd.underlying3 h0
  obtain ⟨k1, e1, _, w1⟩ := DataW.trod_int Tryd.underlying3 h1
  obtain ⟨v2, e2, w2⟩ := rd_val (d := x2.1) (ps := x2.2) h2
  obtain ⟨v3, e3, w3⟩ := rd_val (d := x3.1) (ps := x3.2) h3
  obtain ⟨k4, e4, _, w4⟩ := DataW.trod_int Tryd.underlying3 h4
  obtain ⟨p5, g5, s5, e5, q5⟩ := rd_slice (R := ValR) Tryd.underlying45 cellsVal bytesVal (by omega) (fun _ _ _ _ hh _ => rd_val hh) (d := x5.1) (ps := x5.2) h5 hw5
  simp at e0 e1 e2 e3 e4 e5
  obtain ⟨rfl, rfl⟩ := e2
  obtain ⟨rfl, rfl⟩ := e3
  subst e0 e1 e4 e5
  exact ⟨⟨k0, k1, v2.1, v2.2, v3.1, v3.2, k4, s5⟩, _, rfl, I64.of_wf w0, I64.of_wf w1, w2, w3, I64.of_wf w4, ⟨p5, g5, rfl, q5⟩⟩
theorem rd_phi (h : DataW.trod enc Tryd.prog w 0 (fun _ => true) true fuel 118 cs = some (d, ps)) (hw : ∀ k ∈ d.weights Tryd.prog 118, k ≤ reachBytes) : ∃ x, PhiR w cs x := by
  obtain ⟨xs, n, _, hx, hlen, hxl, hf⟩ := DataW.trod_struct Tryd.underlying118 h
  simp only [Prod.mk.injEq] at hx
  obtain ⟨rfl, _⟩ := hx
  rw [cellsPhi] at hlen
  obtain ⟨c0, c1, rfl⟩ := len_2 hlen
  obtain ⟨x0, x1, rfl⟩ := len_2 (show xs.length = 2 by simpa using hxl)
  have h0 : DataW.trod enc Tryd.prog w 0 (fun _ => true) true n 3 (([c0, c1].drop 0).take (Tryd.prog.cellsOf 3)) = some x0 := hf 0 _ rfl
  rw [cellsInt] at h0
  have h1 : DataW.trod enc Tryd.prog w 0 (fun _ => true) true n 45 (([c0, c1].drop 1).take (Tryd.prog.cellsOf 45)) = some x1 := hf 1 _ rfl
  rw [cellsVals] at h1
  have hw1 : ∀ k ∈ x1.1.weights Tryd.prog 45, k ≤ reachBytes := by
    intro k hk
    refine hw k ?_
    unfold DataW.weights
    rw [Tryd.underlying118]
    simp only [List.map_cons, List.map_nil, DataW.weightsEach]
    simp [hk]
  obtain ⟨k0, e0, _, w0⟩ := DataW.trod_int Tryd.underlying3 h0
  obtain ⟨p1, g1, s1, e1, q1⟩ := rd_slice (R := ValR) Tryd.underlying45 cellsVal bytesVal (by omega) (fun _ _ _ _ hh _ => rd_val hh) (d := x1.1) (ps := x1.2) h1 hw1
  simp at e0 e1
  subst e0 e1
  exact ⟨⟨k0, s1⟩, _, rfl, I64.of_wf w0, ⟨p1, g1, rfl, q1⟩⟩
theorem rd_end (h : DataW.trod enc Tryd.prog w 0 (fun _ => true) true fuel 41 cs = some (d, ps)) (hw : ∀ k ∈ d.weights Tryd.prog 41, k ≤ reachBytes) : ∃ x, EndR w cs x := by
  obtain ⟨xs, n, _, hx, hlen, hxl, hf⟩ := DataW.trod_struct Tryd.underlying41 h
  simp only [Prod.mk.injEq] at hx
  obtain ⟨rfl, _⟩ := hx
  rw [cellsEnd] at hlen
  obtain ⟨c0, c1, c2, c3, rfl⟩ := len_4 hlen
  obtain ⟨x0, x1, x2, rfl⟩ := len_3 (show xs.length = 3 by simpa using hxl)
  have h0 : DataW.trod enc Tryd.prog w 0 (fun _ => true) true n 3 (([c0, c1, c2, c3].drop 0).take (Tryd.prog.cellsOf 3)) = some x0 := hf 0 _ rfl
  rw [cellsInt] at h0
  have h1 : DataW.trod enc Tryd.prog w 0 (fun _ => true) true n 38 (([c0, c1, c2, c3].drop 1).take (Tryd.prog.cellsOf 38)) = some x1 := hf 1 _ rfl
  rw [cellsVal] at h1
  have h2 : DataW.trod enc Tryd.prog w 0 (fun _ => true) true n 39 (([c0, c1, c2, c3].drop 3).take (Tryd.prog.cellsOf 39)) = some x2 := hf 2 _ rfl
  rw [cellsInts] at h2
  have hw2 : ∀ k ∈ x2.1.weights Tryd.prog 39, k ≤ reachBytes := by
    intro k hk
    refine hw k ?_
    unfold DataW.weights
    rw [Tryd.underlying41]
    simp only [List.map_cons, List.map_nil, DataW.weightsEach]
    simp [hk]
  obtain ⟨k0, e0, _, w0⟩ := DataW.trod_int Tryd.underlying3 h0
  obtain ⟨v1, e1, w1⟩ := rd_val (d := x1.1) (ps := x1.2) h1
  obtain ⟨p2, g2, s2, e2, q2⟩ := rd_slice (R := IntR) Tryd.underlying39 cellsInt bytesInt (by omega) (fun _ _ _ _ hh _ => rd_int hh) (d := x2.1) (ps := x2.2) h2 hw2
  simp at e0 e1 e2
  obtain ⟨rfl, rfl⟩ := e1
  subst e0 e2
  exact ⟨⟨k0, v1.1, v1.2, s2⟩, _, rfl, I64.of_wf w0, w1, ⟨p2, g2, rfl, q2⟩⟩
theorem rd_blk (h : DataW.trod enc Tryd.prog w 0 (fun _ => true) true fuel 43 cs = some (d, ps)) (hw : ∀ k ∈ d.weights Tryd.prog 43, k ≤ reachBytes) : ∃ x, BlkR w cs x := by
  obtain ⟨xs, n, _, hx, hlen, hxl, hf⟩ := DataW.trod_struct Tryd.underlying43 h
  simp only [Prod.mk.injEq] at hx
  obtain ⟨rfl, _⟩ := hx
  rw [cellsBlk] at hlen
  obtain ⟨c0, c1, c2, c3, c4, c5, rfl⟩ := len_6 hlen
  obtain ⟨x0, x1, x2, rfl⟩ := len_3 (show xs.length = 3 by simpa using hxl)
  have h0 : DataW.trod enc Tryd.prog w 0 (fun _ => true) true n 35 (([c0, c1, c2, c3, c4, c5].drop 0).take (Tryd.prog.cellsOf 35)) = some x0 := hf 0 _ rfl
  rw [cellsPhis] at h0
  have h1 : DataW.trod enc Tryd.prog w 0 (fun _ => true) true n 36 (([c0, c1, c2, c3, c4, c5].drop 1).take (Tryd.prog.cellsOf 36)) = some x1 := hf 1 _ rfl
  rw [cellsInss] at h1
  have h2 : DataW.trod enc Tryd.prog w 0 (fun _ => true) true n 41 (([c0, c1, c2, c3, c4, c5].drop 2).take (Tryd.prog.cellsOf 41)) = some x2 := hf 2 _ rfl
  rw [cellsEnd] at h2
  have hw0 : ∀ k ∈ x0.1.weights Tryd.prog 35, k ≤ reachBytes := by
    intro k hk
    refine hw k ?_
    unfold DataW.weights
    rw [Tryd.underlying43]
    simp only [List.map_cons, List.map_nil, DataW.weightsEach]
    simp [hk]
  have hw1 : ∀ k ∈ x1.1.weights Tryd.prog 36, k ≤ reachBytes := by
    intro k hk
    refine hw k ?_
    unfold DataW.weights
    rw [Tryd.underlying43]
    simp only [List.map_cons, List.map_nil, DataW.weightsEach]
    simp [hk]
  have hw2 : ∀ k ∈ x2.1.weights Tryd.prog 41, k ≤ reachBytes := by
    intro k hk
    refine hw k ?_
    unfold DataW.weights
    rw [Tryd.underlying43]
    simp only [List.map_cons, List.map_nil, DataW.weightsEach]
    simp [hk]
  obtain ⟨p0, g0, s0, e0, q0⟩ := rd_slice (R := PhiR w) Tryd.underlying35 cellsPhi bytesPhi (by omega) (fun _ _ _ _ hh hw => rd_phi hh hw) (d := x0.1) (ps := x0.2) h0 hw0
  obtain ⟨p1, g1, s1, e1, q1⟩ := rd_slice (R := InsR w) Tryd.underlying36 cellsIns bytesIns (by omega) (fun _ _ _ _ hh hw => rd_ins hh hw) (d := x1.1) (ps := x1.2) h1 hw1
  obtain ⟨f2, v2, e2, w2, u2, q2⟩ := rd_end (d := x2.1) (ps := x2.2) h2 hw2
  simp at e0 e1 e2
  obtain ⟨rfl, rfl, rfl, rfl⟩ := e2
  subst e0 e1
  exact ⟨⟨s0, s1, f2⟩, _, _, _, rfl, w2, u2, ⟨p0, g0, rfl, q0⟩, ⟨p1, g1, rfl, q1⟩, q2⟩
theorem rd_fun (h : DataW.trod enc Tryd.prog w 0 (fun _ => true) true fuel 34 cs = some (d, ps)) (hw : ∀ k ∈ d.weights Tryd.prog 34, k ≤ reachBytes) : ∃ x, FunR w cs x := by
  obtain ⟨xs, n, _, hx, hlen, hxl, hf⟩ := DataW.trod_struct Tryd.underlying34 h
  simp only [Prod.mk.injEq] at hx
  obtain ⟨rfl, _⟩ := hx
  rw [cellsFun] at hlen
  obtain ⟨c0, c1, c2, c3, rfl⟩ := len_4 hlen
  obtain ⟨x0, x1, x2, x3, rfl⟩ := len_4 (show xs.length = 4 by simpa using hxl)
  have h0 : DataW.trod enc Tryd.prog w 0 (fun _ => true) true n 9 (([c0, c1, c2, c3].drop 0).take (Tryd.prog.cellsOf 9)) = some x0 := hf 0 _ rfl
  rw [cellsStr] at h0
  have h1 : DataW.trod enc Tryd.prog w 0 (fun _ => true) true n 3 (([c0, c1, c2, c3].drop 1).take (Tryd.prog.cellsOf 3)) = some x1 := hf 1 _ rfl
  rw [cellsInt] at h1
  have h2 : DataW.trod enc Tryd.prog w 0 (fun _ => true) true n 3 (([c0, c1, c2, c3].drop 2).take (Tryd.prog.cellsOf 3)) = some x2 := hf 2 _ rfl
  rw [cellsInt] at h2
  have h3 : DataW.trod enc Tryd.prog w 0 (fun _ => true) true n 32 (([c0, c1, c2, c3].drop 3).take (Tryd.prog.cellsOf 32)) = some x3 := hf 3 _ rfl
  rw [cellsBlks] at h3
  have hw0 : ∀ k ∈ x0.1.weights Tryd.prog 9, k ≤ reachBytes := by
    intro k hk
    refine hw k ?_
    unfold DataW.weights
    rw [Tryd.underlying34]
    simp only [List.map_cons, List.map_nil, DataW.weightsEach]
    simp [hk]
  have hw3 : ∀ k ∈ x3.1.weights Tryd.prog 32, k ≤ reachBytes := by
    intro k hk
    refine hw k ?_
    unfold DataW.weights
    rw [Tryd.underlying34]
    simp only [List.map_cons, List.map_nil, DataW.weightsEach]
    simp [hk]
  obtain ⟨k0, e0, ex0, _⟩ := DataW.trod_string Tryd.underlying9 h0
  have z0 : k0.size ≤ reachBytes := by
    have := hw0 k0.data.toList.length (by rw [ex0]; unfold DataW.weights; simp)
    simpa using this
  obtain ⟨k1, e1, _, w1⟩ := DataW.trod_int Tryd.underlying3 h1
  obtain ⟨k2, e2, _, w2⟩ := DataW.trod_int Tryd.underlying3 h2
  obtain ⟨p3, g3, s3, e3, q3⟩ := rd_slice (R := BlkR w) Tryd.underlying32 cellsBlk bytesBlk (by omega) (fun _ _ _ _ hh hw => rd_blk hh hw) (d := x3.1) (ps := x3.2) h3 hw3
  simp at e0 e1 e2 e3
  subst e0 e1 e2 e3
  exact ⟨⟨k0, k1, k2, s3⟩, _, rfl, z0, I64.of_wf w1, I64.of_wf w2, ⟨p3, g3, rfl, q3⟩⟩
theorem rd_glo (h : DataW.trod enc Tryd.prog w 0 (fun _ => true) true fuel 93 cs = some (d, ps)) (hw : ∀ k ∈ d.weights Tryd.prog 93, k ≤ reachBytes) : ∃ x, GloR w cs x := by
  obtain ⟨xs, n, _, hx, hlen, hxl, hf⟩ := DataW.trod_struct Tryd.underlying93 h
  simp only [Prod.mk.injEq] at hx
  obtain ⟨rfl, _⟩ := hx
  rw [cellsGlo] at hlen
  obtain ⟨c0, c1, c2, rfl⟩ := len_3 hlen
  obtain ⟨x0, x1, x2, rfl⟩ := len_3 (show xs.length = 3 by simpa using hxl)
  have h0 : DataW.trod enc Tryd.prog w 0 (fun _ => true) true n 9 (([c0, c1, c2].drop 0).take (Tryd.prog.cellsOf 9)) = some x0 := hf 0 _ rfl
  rw [cellsStr] at h0
  have h1 : DataW.trod enc Tryd.prog w 0 (fun _ => true) true n 3 (([c0, c1, c2].drop 1).take (Tryd.prog.cellsOf 3)) = some x1 := hf 1 _ rfl
  rw [cellsInt] at h1
  have h2 : DataW.trod enc Tryd.prog w 0 (fun _ => true) true n 39 (([c0, c1, c2].drop 2).take (Tryd.prog.cellsOf 39)) = some x2 := hf 2 _ rfl
  rw [cellsInts] at h2
  have hw0 : ∀ k ∈ x0.1.weights Tryd.prog 9, k ≤ reachBytes := by
    intro k hk
    refine hw k ?_
    unfold DataW.weights
    rw [Tryd.underlying93]
    simp only [List.map_cons, List.map_nil, DataW.weightsEach]
    simp [hk]
  have hw2 : ∀ k ∈ x2.1.weights Tryd.prog 39, k ≤ reachBytes := by
    intro k hk
    refine hw k ?_
    unfold DataW.weights
    rw [Tryd.underlying93]
    simp only [List.map_cons, List.map_nil, DataW.weightsEach]
    simp [hk]
  obtain ⟨k0, e0, ex0, _⟩ := DataW.trod_string Tryd.underlying9 h0
  have z0 : k0.size ≤ reachBytes := by
    have := hw0 k0.data.toList.length (by rw [ex0]; unfold DataW.weights; simp)
    simpa using this
  obtain ⟨k1, e1, _, w1⟩ := DataW.trod_int Tryd.underlying3 h1
  obtain ⟨p2, g2, s2, e2, q2⟩ := rd_slice (R := IntR) Tryd.underlying39 cellsInt bytesInt (by omega) (fun _ _ _ _ hh _ => rd_int hh) (d := x2.1) (ps := x2.2) h2 hw2
  simp at e0 e1 e2
  subst e0 e1 e2
  exact ⟨⟨k0, k1, s2⟩, _, rfl, z0, I64.of_wf w1, ⟨p2, g2, rfl, q2⟩⟩
theorem rd_uni (h : DataW.trod enc Tryd.prog w 0 (fun _ => true) true fuel 25 cs = some (d, ps)) (hw : ∀ k ∈ d.weights Tryd.prog 25, k ≤ reachBytes) : ∃ x, UniR w cs x := by
  obtain ⟨xs, n, _, hx, hlen, hxl, hf⟩ := DataW.trod_struct Tryd.underlying25 h
  simp only [Prod.mk.injEq] at hx
  obtain ⟨rfl, _⟩ := hx
  rw [cellsUni] at hlen
  obtain ⟨c0, c1, rfl⟩ := len_2 hlen
  obtain ⟨x0, x1, rfl⟩ := len_2 (show xs.length = 2 by simpa using hxl)
  have h0 : DataW.trod enc Tryd.prog w 0 (fun _ => true) true n 22 (([c0, c1].drop 0).take (Tryd.prog.cellsOf 22)) = some x0 := hf 0 _ rfl
  rw [cellsGlos] at h0
  have h1 : DataW.trod enc Tryd.prog w 0 (fun _ => true) true n 23 (([c0, c1].drop 1).take (Tryd.prog.cellsOf 23)) = some x1 := hf 1 _ rfl
  rw [cellsFuns] at h1
  have hw0 : ∀ k ∈ x0.1.weights Tryd.prog 22, k ≤ reachBytes := by
    intro k hk
    refine hw k ?_
    unfold DataW.weights
    rw [Tryd.underlying25]
    simp only [List.map_cons, List.map_nil, DataW.weightsEach]
    simp [hk]
  have hw1 : ∀ k ∈ x1.1.weights Tryd.prog 23, k ≤ reachBytes := by
    intro k hk
    refine hw k ?_
    unfold DataW.weights
    rw [Tryd.underlying25]
    simp only [List.map_cons, List.map_nil, DataW.weightsEach]
    simp [hk]
  obtain ⟨p0, g0, s0, e0, q0⟩ := rd_slice (R := GloR w) Tryd.underlying22 cellsGlo bytesGlo (by omega) (fun _ _ _ _ hh hw => rd_glo hh hw) (d := x0.1) (ps := x0.2) h0 hw0
  obtain ⟨p1, g1, s1, e1, q1⟩ := rd_slice (R := FunR w) Tryd.underlying23 cellsFun bytesFun (by omega) (fun _ _ _ _ hh hw => rd_fun hh hw) (d := x1.1) (ps := x1.2) h1 hw1
  simp at e0 e1
  subst e0 e1
  exact ⟨⟨s0, s1⟩, _, _, rfl, ⟨p0, g0, rfl, q0⟩, ⟨p1, g1, rfl, q1⟩⟩
end
end Go.Proofs.YteckkdmgkikeaaaDoor
