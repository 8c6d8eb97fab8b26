/-
  How arguments read as data: slices of whatever elements, values, instructions; what a law's row asks behind a call that changes nothing.
How a whole unit that came in reads as data: globals, functions, blocks, instructions.
Runs of == and != on two values, on two faults.
What came in is read in the middle of a walk: the elements of slices, behind calls that made new memory alone.
Plain: which blocks lead to which, as lists.
Plain: a table of rows that grow by append, in a world.
The contract of code.ahead: of each block the blocks that lead to it.
-/
import Derived.Test.YtdjamkinijhjoaaDoorRows
import Derived.Test.YtdjamkinijhjoaaDoorWrd
import Derived.ProofKit
import Derived.Deep.Slices
import Derived.WalkKit
import Derived.WalkSpells
import Derived.WalkLawsBesides
import Derived.Deep.OwnRows
import Derived.OwnWalk
import Derived.Maps.AppendAt
namespace Go.Proofs.YtdjamkinijhjoaaDoor
open Go.RowKit Go.ChangeShapes Go.WideShapes Go.ChangeAt

/-- the elements of a slice lie in memory: element i's cells meet R of the i-th -/
def SliceAt {α : Type} (w : World) (size : Nat) (R : List Value → α → Prop) (p : Option Addr) (xs : List α) : Prop :=
  xs = [] ∨ ∃ b o, p = some ⟨b, o, none⟩ ∧ ∀ i (hi : i < xs.length), ∃ cs, cs.length = size ∧ (∀ j, j < size → w.cell? ⟨b, o + i * size + j, none⟩ = cs[j]?) ∧ R cs xs[i]

theorem cells_get {w : World} {base : Nat} {a : Addr} {n : Nat} {cs : List Value} (h : w.cells? base a n = some cs) : cs.length = n ∧ ∀ j, j < n → w.cell? (a.add j) = cs[j]? := by
  unfold World.cells? at h
  split at h
  · have hl := mapM_some_length h
    refine ⟨by simpa using hl, fun j hj => ?_⟩
    have := mapM_some_get h j j (by simp [hj])
    exact this
  · cases h

theorem list_of_forall {α : Type} {Q : Nat → α → Prop} : ∀ (n : Nat), (∀ i, i < n → ∃ x, Q i x) → ∃ xs : List α, xs.length = n ∧ ∀ i (hi : i < xs.length), Q i xs[i]
  | 0, _ => ⟨[], rfl, fun i hi => absurd hi (by simp)⟩
  | n + 1, h => by
    obtain ⟨xs, hl, hx⟩ := list_of_forall n (fun i hi => h i (by omega))
    obtain ⟨x, hq⟩ := h n (by omega)
    refine ⟨xs ++ [x], by simp [hl], fun i hi => ?_⟩
    rw [List.length_append, List.length_singleton] at hi
    rcases Nat.lt_or_ge i xs.length with g | g
    · rw [List.getElem_append_left g]; exact hx i g
    · obtain rfl : i = xs.length := by omega
      rw [List.getElem_append_right (Nat.le_refl _)]
      simp only [Nat.sub_self, List.getElem_cons_zero]
      rw [hl]; exact hq

theorem mem_weightsAll {H : Type} {P : Program} {e : TypeId} {d : DataW H} {k : Nat} (hk : k ∈ d.weights P e) : ∀ {l : List (DataW H)}, d ∈ l → k ∈ DataW.weightsAll P e l
  | x :: r, h => by
    unfold DataW.weightsAll
    rcases List.mem_cons.1 h with rfl | h
    · exact List.mem_append_left _ hk
    · exact List.mem_append_right _ (mem_weightsAll hk h)

section
variable {H : Type} {enc : TypeId × Value → H} {P : Program} {w : World}

/-- a slice that came in, whatever its elements -/
theorem rd_slice {α : Type} {R : List Value → α → Prop} {t e : TypeId} {size bytes : Nat} (ht : P.underlying t = some (.slice e)) (hsz : P.cellsOf e = size) (hby : P.bytesOf e = bytes) (hpos : 0 < size)
    (hR : ∀ fuel cs d ps, DataW.trod enc P w 0 (fun _ => true) true fuel e cs = some (d, ps) → (∀ k ∈ d.weights P e, k ≤ reachBytes) → ∃ x, R cs x)
    {fuel : Nat} {cs : List Value} {d : DataW H} {ps : List MemPlace} (h : DataW.trod enc P w 0 (fun _ => true) true fuel t cs = some (d, ps)) (hw : ∀ k ∈ d.weights P t, k ≤ reachBytes) :
    ∃ (p : Option Addr) (c : Nat) (xs : List α), cs = [.slice p xs.length c] ∧ (p = none → xs.length = 0 ∧ c = 0) ∧ xs.length ≤ c ∧ c * bytes ≤ reachBytes ∧ SliceAt w size R p xs := by
  rcases Go.Deep.open_slice ht h with ⟨rfl, hx⟩ | ⟨a, len, cap, m, n, D, Pl, rfl, _, hl, hm, hmm, hx, hel⟩
  · exact ⟨none, 0, [], rfl, fun _ => ⟨rfl, rfl⟩, Nat.le_refl _, by simp, .inl rfl⟩
  · simp only [if_true] at hmm
    subst hmm
    simp only [Prod.mk.injEq] at hx
    obtain ⟨rfl, rfl⟩ := hx
    have hwl : m * bytes ≤ reachBytes := by
      refine hw _ ?_
      unfold DataW.weights
      rw [ht]
      simp only [List.length_map, List.length_range, hby]
      rw [show len + (m - len) = m by omega]
      exact List.mem_cons_self
    have hel2 : ∀ i, i < len → ∃ x, ∃ cs', w.cells? 0 (a.add (i * size)) size = some cs' ∧ R cs' x := by
      intro i hi
      obtain ⟨cs', hc, htr⟩ := hel i (by omega)
      rw [hsz] at hc
      obtain ⟨x, hx⟩ := hR _ _ _ _ htr (fun k hk => by
        refine hw _ ?_
        unfold DataW.weights
        rw [ht]
        refine List.mem_cons_of_mem _ (List.mem_append_left _ ?_)
        exact mem_weightsAll hk (List.mem_map.2 ⟨i, List.mem_range.2 hi, rfl⟩))
      exact ⟨x, cs', hc, hx⟩
    obtain ⟨xs, rfl, hxs⟩ := list_of_forall len hel2
    refine ⟨some a, m, xs, rfl, fun h => (by cases h), hl, hwl, ?_⟩
    rcases Nat.eq_zero_or_pos xs.length with h0 | h0
    · exact .inl (List.length_eq_zero_iff.1 h0)
    right
    obtain ⟨b, o, sp⟩ := a
    have hsp : sp = none := by
      obtain ⟨cs', hc, _⟩ := hxs 0 h0
      obtain ⟨hcl, hcc⟩ := cells_get hc
      have h1 := hcc 0 hpos
      rw [List.getElem?_eq_getElem (by omega)] at h1
      cases sp with
      | none => rfl
      | some s =>
        exfalso
        unfold World.cell? at h1
        split at h1
        · simp [Addr.add] at h1
        · cases h1
    subst hsp
    refine ⟨b, o, rfl, fun i hi => ?_⟩
    obtain ⟨cs', hc, hr⟩ := hxs i hi
    obtain ⟨hcl, hcc⟩ := cells_get hc
    refine ⟨cs', hcl, fun j hj => ?_, hr⟩
    have := hcc j hj
    rw [← this]
    congr 1
    simp only [Addr.add]
    split <;> split <;> simp_all <;> omega

/-- behind a call that made new memory alone, each argument reads as it did -/
theorem trodAll_below {W W' : World} (hl : laidOutB P = true) (hb : Below W.heap.size W W') : ∀ {ts : List TypeId} {vs : List Value} {ds : List (DataW H)} {ps : List MemPlace}, (∀ t ∈ ts, P.readableRec t = true ∧ t < P.types.size) →
    DataW.TrodAll enc P W 0 (fun _ => true) true ts vs ds ps → (∀ x ∈ ps, x.block < W.heap.size) → DataW.TrodAll enc P W' 0 (fun b => decide (b < W.heap.size)) true ts vs ds ps
  | [], [], [], _, _, h, _ => h
  | t :: ts, v :: vs, d :: ds, ps, ht, h, hlt => by
    obtain ⟨p, q, h1, h2, rfl⟩ := h
    obtain ⟨r1, r2⟩ := ht t List.mem_cons_self
    exact ⟨p, q, Below.trod hl r1 r2 h1 hb (fun x hx => hlt x (List.mem_append_left _ hx)), trodAll_below hl hb (fun t h => ht t (List.mem_cons_of_mem _ h)) h2 (fun x hx => hlt x (List.mem_append_right _ hx)), rfl⟩

/-- what a law's row asks of a call that answers true and has made new memory alone -/
theorem law_post {f : Func} {s : ChangeSpec} {W W' : World} {args : Array Value} {ds gs : List (DataW H)} {before : List MemPlace} {T : TypeId} (hl : laidOutB P = true) (hres : f.resultTypes = #[T]) (hT : P.underlying T = some .bool)
    (hts : ∀ t ∈ f.params.toList, P.readableRec t = true ∧ t < P.types.size) (hvars : s.vars = []) (hW : DataW.Whole enc P f.params.toList s.vars false W args.toList ds gs before)
    (hfn : s.fn H (ds ++ gs) = { results := [.lit (.bool true)], args := ds }) (hb : Below W.heap.size W W') :
    s.post enc P f false true false false W args (.bool true) W' := by
  have hlt : ∀ x ∈ before, x.block < W.heap.size := fun x hx => hW.lt x hx
  have hW2 := hW
  obtain ⟨p, q, hA, hV, rfl, hfz, hnd⟩ := hW2
  refine ⟨ds, gs, _, [], p, [], hW, ?_, ?_, ?_, hb.frame _, fun h => by cases h⟩
  · rw [hfn, hres]
    exact trodAll_mk1 (shut_bool hT true)
  · rw [hfn]
    exact trodAll_below hl hb hts hA (fun x hx => hlt x (List.mem_append_left _ hx))
  · rw [hfn, hvars]
    exact rfl
end
end Go.Proofs.YtdjamkinijhjoaaDoor
namespace Go.Proofs.YtdjamkinijhjoaaDoor
open Go.RowKit Go.ChangeShapes Go.WideShapes Go.ChangeAt

theorem I64.of_wf {n : Int} (h : (Lit.int .i64 n).wf = true) : I64 n := by
  simp only [Lit.wf, IntKind.min, IntKind.max, IntKind.signed, IntKind.bits, Bool.and_eq_true, decide_eq_true_eq, if_true] at h
  unfold I64
  omega

/-- a value: is it a register, and its number -/
def ValR (cs : List Value) (v : Bool × Int) : Prop := cs = [.bool v.1, .int .i64 v.2] ∧ I64 v.2
def IntR (cs : List Value) (n : Int) : Prop := cs = [.int .i64 n] ∧ I64 n
/-- a slice in a field: its value, and its elements -/
def SlF {α : Type} (w : World) (size bytes : Nat) (R : List Value → α → Prop) (v : Value) (xs : List α) : Prop :=
  ∃ p c, v = .slice p xs.length c ∧ (p = none → xs.length = 0 ∧ c = 0) ∧ xs.length ≤ c ∧ xs.length * bytes ≤ reachBytes ∧ SliceAt w size R p xs
theorem capQ {A D : Prop} {n c b r : Nat} (h : A ∧ n ≤ c ∧ c * b ≤ r ∧ D) : A ∧ n ≤ c ∧ n * b ≤ r ∧ D := ⟨h.1, h.2.1, Nat.le_trans (Nat.mul_le_mul_right _ h.2.1) h.2.2.1, h.2.2.2⟩

/-- an instruction that came in, all of it -/
structure InsL where
  op : Int
  dst : Int
  ar : Bool
  an : Int
  br : Bool
  bn : Int
  fn : Int
  args : List (Bool × Int)
structure PhiL where
  dst : Int
  src : List (Bool × Int)
structure EndL where
  kind : Int
  onr : Bool
  onn : Int
  to : List Int
structure BlkL where
  phis : List PhiL
  list : List InsL
  fin : EndL
structure FunL where
  name : ByteArray
  params : Int
  regs : Int
  blocks : List BlkL
structure GloL where
  name : ByteArray
  size : Int
  init : List Int
structure UniL where
  globals : List GloL
  funcs : List FunL

def InsR (w : World) (cs : List Value) (i : InsL) : Prop := ∃ v, cs = [.int .i64 i.op, .int .i64 i.dst, .bool i.ar, .int .i64 i.an, .bool i.br, .int .i64 i.bn, .int .i64 i.fn, v] ∧
  I64 i.op ∧ I64 i.dst ∧ I64 i.an ∧ I64 i.bn ∧ I64 i.fn ∧ SlF w 2 16 ValR v i.args
def PhiR (w : World) (cs : List Value) (x : PhiL) : Prop := ∃ v, cs = [.int .i64 x.dst, v] ∧ I64 x.dst ∧ SlF w 2 16 ValR v x.src
def EndR (w : World) (cs : List Value) (x : EndL) : Prop := ∃ v, cs = [.int .i64 x.kind, .bool x.onr, .int .i64 x.onn, v] ∧ I64 x.kind ∧ I64 x.onn ∧ SlF w 1 8 IntR v x.to
def BlkR (w : World) (cs : List Value) (x : BlkL) : Prop := ∃ v1 v2 v3, cs = [v1, v2, .int .i64 x.fin.kind, .bool x.fin.onr, .int .i64 x.fin.onn, v3] ∧ I64 x.fin.kind ∧ I64 x.fin.onn ∧
  SlF w 2 32 (PhiR w) v1 x.phis ∧ SlF w 8 80 (InsR w) v2 x.list ∧ SlF w 1 8 IntR v3 x.fin.to
def FunR (w : World) (cs : List Value) (x : FunL) : Prop := ∃ v, cs = [.string x.name, .int .i64 x.params, .int .i64 x.regs, v] ∧ x.name.size ≤ reachBytes ∧ I64 x.params ∧ I64 x.regs ∧ SlF w 6 96 (BlkR w) v x.blocks
def GloR (w : World) (cs : List Value) (x : GloL) : Prop := ∃ v, cs = [.string x.name, .int .i64 x.size, v] ∧ x.name.size ≤ reachBytes ∧ I64 x.size ∧ SlF w 1 8 IntR v x.init
def UniR (w : World) (cs : List Value) (x : UniL) : Prop := ∃ v1 v2, cs = [v1, v2] ∧ SlF w 3 48 (GloR w) v1 x.globals ∧ SlF w 4 56 (FunR w) v2 x.funcs

theorem cellsVal : Tryd.prog.cellsOf 45 = 2 := by kernel_rfl
theorem cellsBool : Tryd.prog.cellsOf 4 = 1 := by kernel_rfl
theorem cellsInt : Tryd.prog.cellsOf 3 = 1 := by kernel_rfl
theorem cellsStr : Tryd.prog.cellsOf 9 = 1 := by kernel_rfl
theorem cellsVals : Tryd.prog.cellsOf 51 = 1 := by kernel_rfl
theorem cellsInts : Tryd.prog.cellsOf 46 = 1 := by kernel_rfl
theorem cellsIns : Tryd.prog.cellsOf 53 = 8 := by kernel_rfl
theorem cellsInss : Tryd.prog.cellsOf 43 = 1 := by kernel_rfl
theorem cellsPhi : Tryd.prog.cellsOf 78 = 2 := by kernel_rfl
theorem cellsPhis : Tryd.prog.cellsOf 42 = 1 := by kernel_rfl
theorem cellsEnd : Tryd.prog.cellsOf 48 = 4 := by kernel_rfl
theorem cellsBlk : Tryd.prog.cellsOf 50 = 6 := by kernel_rfl
theorem cellsBlks : Tryd.prog.cellsOf 35 = 1 := by kernel_rfl
theorem cellsFun : Tryd.prog.cellsOf 37 = 4 := by kernel_rfl
theorem cellsFuns : Tryd.prog.cellsOf 23 = 1 := by kernel_rfl
theorem cellsGlo : Tryd.prog.cellsOf 90 = 3 := by kernel_rfl
theorem cellsGlos : Tryd.prog.cellsOf 22 = 1 := by kernel_rfl
theorem cellsUni : Tryd.prog.cellsOf 25 = 2 := by kernel_rfl
theorem bytesVal : Tryd.prog.bytesOf 45 = 16 := by kernel_rfl
theorem bytesInt : Tryd.prog.bytesOf 3 = 8 := by kernel_rfl
theorem bytesIns : Tryd.prog.bytesOf 53 = 80 := by kernel_rfl
theorem bytesPhi : Tryd.prog.bytesOf 78 = 32 := by kernel_rfl
theorem bytesBlk : Tryd.prog.bytesOf 50 = 96 := by kernel_rfl
theorem bytesFun : Tryd.prog.bytesOf 37 = 56 := by kernel_rfl
theorem bytesGlo : Tryd.prog.bytesOf 90 = 48 := by kernel_rfl
theorem len_2 {α : Type} {l : List α} (hl : l.length = 2) : ∃ a b, l = [a, b] := by
  match l, hl with
  | [a, b], _ => exact ⟨a, b, rfl⟩
theorem len_3 {α : Type} {l : List α} (hl : l.length = 3) : ∃ a b c, l = [a, b, c] := by
  match l, hl with
  | [a, b, c], _ => exact ⟨a, b, c, rfl⟩
theorem len_4 {α : Type} {l : List α} (hl : l.length = 4) : ∃ a b c d, l = [a, b, c, d] := by
  match l, hl with
  | [a, b, c, d], _ => exact ⟨a, b, c, d, rfl⟩
theorem len_6 {α : Type} {l : List α} (hl : l.length = 6) : ∃ a b c d e f, l = [a, b, c, d, e, f] := by
  match l, hl with
  | [a, b, c, d, e, f], _ => exact ⟨a, b, c, d, e, f, rfl⟩
theorem len_8 {α : Type} {l : List α} (hl : l.length = 8) : ∃ a b c d e f g h, l = [a, b, c, d, e, f, g, h] := by
  match l, hl with
  | [a, b, c, d, e, f, g, h], _ => exact ⟨a, b, c, d, e, f, g, h, rfl⟩

section
variable {H : Type} {enc : TypeId × Value → H} {w : World} {fuel : Nat} {cs : List Value} {d : DataW H} {ps : List MemPlace}
theorem rd_int (h : DataW.trod enc Tryd.prog w 0 (fun _ => true) true fuel 3 cs = some (d, ps)) : ∃ n, IntR cs n := by
  obtain ⟨k, e, _, wk⟩ := DataW.trod_int Tryd.underlying3 h
  exact ⟨k, e, I64.of_wf wk⟩
theorem rd_val (h : DataW.trod enc Tryd.prog w 0 (fun _ => true) true fuel 45 cs = some (d, ps)) : ∃ x, ValR cs x := by
  obtain ⟨xs, n, _, hx, hlen, hxl, hf⟩ := DataW.trod_struct Tryd.underlying45 h
  simp only [Prod.mk.injEq] at hx
  obtain ⟨rfl, _⟩ := hx
  rw [cellsVal] at hlen
  obtain ⟨c0, c1, rfl⟩ := len_2 hlen
  obtain ⟨x0, x1, rfl⟩ := len_2 (show xs.length = 2 by simpa using hxl)
  have h0 : DataW.trod enc Tryd.prog w 0 (fun _ => true) true n 4 (([c0, c1].drop 0).take (Tryd.prog.cellsOf 4)) = some x0 := hf 0 _ rfl
  rw [cellsBool] at h0
  have h1 : DataW.trod enc Tryd.prog w 0 (fun _ => true) true n 3 (([c0, c1].drop 1).take (Tryd.prog.cellsOf 3)) = some x1 := hf 1 _ rfl
  rw [cellsInt] at h1
  obtain ⟨k0, e0, _⟩ := DataW.trod_bool Tryd.underlying4 h0
  obtain ⟨k1, e1, _, w1⟩ := DataW.trod_int Tryd.underlying3 h1
  simp at e0 e1
  subst e0 e1
  exact ⟨(k0, k1), rfl, I64.of_wf w1⟩
theorem rd_ins (h : DataW.trod enc Tryd.prog w 0 (fun _ => true) true fuel 53 cs = some (d, ps)) (hw : ∀ k ∈ d.weights Tryd.prog 53, k ≤ reachBytes) : ∃ x, InsR w cs x := by
  obtain ⟨xs, n, _, hx, hlen, hxl, hf⟩ := DataW.trod_struct Tryd.underlying53 h
  simp only [Prod.mk.injEq] at hx
  obtain ⟨rfl, _⟩ := hx
  rw [cellsIns] at hlen
  obtain ⟨c0, c1, c2, c3, c4, c5, c6, c7, rfl⟩ := len_8 hlen
  obtain ⟨x0, x1, x2, x3, x4, x5, rfl⟩ := len_6 (show xs.length = 6 by simpa using hxl)
  have h0 : DataW.trod enc Tryd.prog w 0 (fun _ => true) true n 3 (([c0, c1, c2, c3, c4, c5, c6, c7].drop 0).take (Tryd.prog.cellsOf 3)) = some x0 := hf 0 _ rfl
  rw [cellsInt] at h0
  have h1 : DataW.trod enc Tryd.prog w 0 (fun _ => true) true n 3 (([c0, c1, c2, c3, c4, c5, c6, c7].drop 1).take (Tryd.prog.cellsOf 3)) = some x1 := hf 1 _ rfl
  rw [cellsInt] at h1
  have h2 : DataW.trod enc Tryd.prog w 0 (fun _ => true) true n 45 (([c0, c1, c2, c3, c4, c5, c6, c7].drop 2).take (Tryd.prog.cellsOf 45)) = some x2 := hf 2 _ rfl
  rw [cellsVal] at h2
  have h3 : DataW.trod enc Tryd.prog w 0 (fun _ => true) true n 45 (([c0, c1, c2, c3, c4, c5, c6, c7].drop 4).take (Tryd.prog.cellsOf 45)) = some x3 := hf 3 _ rfl
  rw [cellsVal] at h3
  have h4 : DataW.trod enc Tryd.prog w 0 (fun _ => true) true n 3 (([c0, c1, c2, c3, c4, c5, c6, c7].drop 6).take (Tryd.prog.cellsOf 3)) = some x4 := hf 4 _ rfl
  rw [cellsInt] at h4
  have h5 : DataW.trod enc Tryd.prog w 0 (fun _ => true) true n 51 (([c0, c1, c2, c3, c4, c5, c6, c7].drop 7).take (Tryd.prog.cellsOf 51)) = some x5 := hf 5 _ rfl
  rw [cellsVals] at h5
  have hw5 : ∀ k ∈ x5.1.weights Tryd.prog 51, k ≤ reachBytes := by
    intro k hk
    refine hw k ?_
    unfold DataW.weights
    rw [Tryd.underlying53]
    simp only [List.map_cons, List.map_nil, DataW.weightsEach]
    simp [hk]
  obtain ⟨k0, e0, _, w0⟩ := DataW.trod_int Tryd.underlying3 h0
  obtain ⟨k1, e1, _, w1⟩ := DataW.trod_int Tryd.underlying3 h1
  obtain ⟨v2, e2, w2⟩ := rd_val (d := x2.1) (ps := x2.2) h2
  obtain ⟨v3, e3, w3⟩ := rd_val (d := x3.1) (ps := x3.2) h3
  obtain ⟨k4, e4, _, w4⟩ := DataW.trod_int Tryd.underlying3 h4
  obtain ⟨p5, g5, s5, e5, q5⟩ := rd_slice (R := ValR) Tryd.underlying51 cellsVal bytesVal (by omega) (fun _ _ _ _ hh _ => rd_val hh) (d := x5.1) (ps := x5.2) h5 hw5
  simp at e0 e1 e2 e3 e4 e5
  obtain ⟨rfl, rfl⟩ := e2
  obtain ⟨rfl, rfl⟩ := e3
  subst e0 e1 e4 e5
  exact ⟨⟨k0, k1, v2.1, v2.2, v3.1, v3.2, k4, s5⟩, _, rfl, I64.of_wf w0, I64.of_wf w1, w2, w3, I64.of_wf w4, ⟨p5, g5, rfl, capQ q5⟩⟩
theorem rd_phi (h : DataW.trod enc Tryd.prog w 0 (fun _ => true) true fuel 78 cs = some (d, ps)) (hw : ∀ k ∈ d.weights Tryd.prog 78, k ≤ reachBytes) : ∃ x, PhiR w cs x := by
  obtain ⟨xs, n, _, hx, hlen, hxl, hf⟩ := DataW.trod_struct Tryd.underlying78 h
  simp only [Prod.mk.injEq] at hx
  obtain ⟨rfl, _⟩ := hx
  rw [cellsPhi] at hlen
  obtain ⟨c0, c1, rfl⟩ := len_2 hlen
  obtain ⟨x0, x1, rfl⟩ := len_2 (show xs.length = 2 by simpa using hxl)
  have h0 : DataW.trod enc Tryd.prog w 0 (fun _ => true) true n 3 (([c0, c1].drop 0).take (Tryd.prog.cellsOf 3)) = some x0 := hf 0 _ rfl
  rw [cellsInt] at h0
  have h1 : DataW.trod enc Tryd.prog w 0 (fun _ => true) true n 51 (([c0, c1].drop 1).take (Tryd.prog.cellsOf 51)) = some x1 := hf 1 _ rfl
  rw [cellsVals] at h1
  have hw1 : ∀ k ∈ x1.1.weights Tryd.prog 51, k ≤ reachBytes := by
    intro k hk
    refine hw k ?_
    unfold DataW.weights
    rw [Tryd.underlying78]
    simp only [List.map_cons, List.map_nil, DataW.weightsEach]
    simp [hk]
  obtain ⟨k0, e0, _, w0⟩ := DataW.trod_int Tryd.underlying3 h0
  obtain ⟨p1, g1, s1, e1, q1⟩ := rd_slice (R := ValR) Tryd.underlying51 cellsVal bytesVal (by omega) (fun _ _ _ _ hh _ => rd_val hh) (d := x1.1) (ps := x1.2) h1 hw1
  simp at e0 e1
  subst e0 e1
  exact ⟨⟨k0, s1⟩, _, rfl, I64.of_wf w0, ⟨p1, g1, rfl, capQ q1⟩⟩
theorem rd_end (h : DataW.trod enc Tryd.prog w 0 (fun _ => true) true fuel 48 cs = some (d, ps)) (hw : ∀ k ∈ d.weights Tryd.prog 48, k ≤ reachBytes) : ∃ x, EndR w cs x := by
  obtain ⟨xs, n, _, hx, hlen, hxl, hf⟩ := DataW.trod_struct Tryd.underlying48 h
  simp only [Prod.mk.injEq] at hx
  obtain ⟨rfl, _⟩ := hx
  rw [cellsEnd] at hlen
  obtain ⟨c0, c1, c2, c3, rfl⟩ := len_4 hlen
  obtain ⟨x0, x1, x2, rfl⟩ := len_3 (show xs.length = 3 by simpa using hxl)
  have h0 : DataW.trod enc Tryd.prog w 0 (fun _ => true) true n 3 (([c0, c1, c2, c3].drop 0).take (Tryd.prog.cellsOf 3)) = some x0 := hf 0 _ rfl
  rw [cellsInt] at h0
  have h1 : DataW.trod enc Tryd.prog w 0 (fun _ => true) true n 45 (([c0, c1, c2, c3].drop 1).take (Tryd.prog.cellsOf 45)) = some x1 := hf 1 _ rfl
  rw [cellsVal] at h1
  have h2 : DataW.trod enc Tryd.prog w 0 (fun _ => true) true n 46 (([c0, c1, c2, c3].drop 3).take (Tryd.prog.cellsOf 46)) = some x2 := hf 2 _ rfl
  rw [cellsInts] at h2
  have hw2 : ∀ k ∈ x2.1.weights Tryd.prog 46, k ≤ reachBytes := by
    intro k hk
    refine hw k ?_
    unfold DataW.weights
    rw [Tryd.underlying48]
    simp only [List.map_cons, List.map_nil, DataW.weightsEach]
    simp [hk]
  obtain ⟨k0, e0, _, w0⟩ := DataW.trod_int Tryd.underlying3 h0
  obtain ⟨v1, e1, w1⟩ := rd_val (d := x1.1) (ps := x1.2) h1
  obtain ⟨p2, g2, s2, e2, q2⟩ := rd_slice (R := IntR) Tryd.underlying46 cellsInt bytesInt (by omega) (fun _ _ _ _ hh _ => rd_int hh) (d := x2.1) (ps := x2.2) h2 hw2
  simp at e0 e1 e2
  obtain ⟨rfl, rfl⟩ := e1
  subst e0 e2
  exact ⟨⟨k0, v1.1, v1.2, s2⟩, _, rfl, I64.of_wf w0, w1, ⟨p2, g2, rfl, capQ q2⟩⟩
theorem rd_blk (h : DataW.trod enc Tryd.prog w 0 (fun _ => true) true fuel 50 cs = some (d, ps)) (hw : ∀ k ∈ d.weights Tryd.prog 50, k ≤ reachBytes) : ∃ x, BlkR w cs x := by
  obtain ⟨xs, n, _, hx, hlen, hxl, hf⟩ := DataW.trod_struct Tryd.underlying50 h
  simp only [Prod.mk.injEq] at hx
  obtain ⟨rfl, _⟩ := hx
  rw [cellsBlk] at hlen
  obtain ⟨c0, c1, c2, c3, c4, c5, rfl⟩ := len_6 hlen
  obtain ⟨x0, x1, x2, rfl⟩ := len_3 (show xs.length = 3 by simpa using hxl)
  have h0 : DataW.trod enc Tryd.prog w 0 (fun _ => true) true n 42 (([c0, c1, c2, c3, c4, c5].drop 0).take (Tryd.prog.cellsOf 42)) = some x0 := hf 0 _ rfl
  rw [cellsPhis] at h0
  have h1 : DataW.trod enc Tryd.prog w 0 (fun _ => true) true n 43 (([c0, c1, c2, c3, c4, c5].drop 1).take (Tryd.prog.cellsOf 43)) = some x1 := hf 1 _ rfl
  rw [cellsInss] at h1
  have h2 : DataW.trod enc Tryd.prog w 0 (fun _ => true) true n 48 (([c0, c1, c2, c3, c4, c5].drop 2).take (Tryd.prog.cellsOf 48)) = some x2 := hf 2 _ rfl
  rw [cellsEnd] at h2
  have hw0 : ∀ k ∈ x0.1.weights Tryd.prog 42, k ≤ reachBytes := by
    intro k hk
    refine hw k ?_
    unfold DataW.weights
    rw [Tryd.underlying50]
    simp only [List.map_cons, List.map_nil, DataW.weightsEach]
    simp [hk]
  have hw1 : ∀ k ∈ x1.1.weights Tryd.prog 43, k ≤ reachBytes := by
    intro k hk
    refine hw k ?_
    unfold DataW.weights
    rw [Tryd.underlying50]
    simp only [List.map_cons, List.map_nil, DataW.weightsEach]
    simp [hk]
  have hw2 : ∀ k ∈ x2.1.weights Tryd.prog 48, k ≤ reachBytes := by
    intro k hk
    refine hw k ?_
    unfold DataW.weights
    rw [Tryd.underlying50]
    simp only [List.map_cons, List.map_nil, DataW.weightsEach]
    simp [hk]
  obtain ⟨p0, g0, s0, e0, q0⟩ := rd_slice (R := PhiR w) Tryd.underlying42 cellsPhi bytesPhi (by omega) (fun _ _ _ _ hh hw => rd_phi hh hw) (d := x0.1) (ps := x0.2) h0 hw0
  obtain ⟨p1, g1, s1, e1, q1⟩ := rd_slice (R := InsR w) Tryd.underlying43 cellsIns bytesIns (by omega) (fun _ _ _ _ hh hw => rd_ins hh hw) (d := x1.1) (ps := x1.2) h1 hw1
  obtain ⟨f2, v2, e2, w2, u2, q2⟩ := rd_end (d := x2.1) (ps := x2.2) h2 hw2
  simp at e0 e1 e2
  obtain ⟨rfl, rfl, rfl, rfl⟩ := e2
  subst e0 e1
  exact ⟨⟨s0, s1, f2⟩, _, _, _, rfl, w2, u2, ⟨p0, g0, rfl, capQ q0⟩, ⟨p1, g1, rfl, capQ q1⟩, q2⟩
theorem rd_fun (h : DataW.trod enc Tryd.prog w 0 (fun _ => true) true fuel 37 cs = some (d, ps)) (hw : ∀ k ∈ d.weights Tryd.prog 37, k ≤ reachBytes) : ∃ x, FunR w cs x := by
  obtain ⟨xs, n, _, hx, hlen, hxl, hf⟩ := DataW.trod_struct Tryd.underlying37 h
  simp only [Prod.mk.injEq] at hx
  obtain ⟨rfl, _⟩ := hx
  rw [cellsFun] at hlen
  obtain ⟨c0, c1, c2, c3, rfl⟩ := len_4 hlen
  obtain ⟨x0, x1, x2, x3, rfl⟩ := len_4 (show xs.length = 4 by simpa using hxl)
  have h0 : DataW.trod enc Tryd.prog w 0 (fun _ => true) true n 9 (([c0, c1, c2, c3].drop 0).take (Tryd.prog.cellsOf 9)) = some x0 := hf 0 _ rfl
  rw [cellsStr] at h0
  have h1 : DataW.trod enc Tryd.prog w 0 (fun _ => true) true n 3 (([c0, c1, c2, c3].drop 1).take (Tryd.prog.cellsOf 3)) = some x1 := hf 1 _ rfl
  rw [cellsInt] at h1
  have h2 : DataW.trod enc Tryd.prog w 0 (fun _ => true) true n 3 (([c0, c1, c2, c3].drop 2).take (Tryd.prog.cellsOf 3)) = some x2 := hf 2 _ rfl
  rw [cellsInt] at h2
  have h3 : DataW.trod enc Tryd.prog w 0 (fun _ => true) true n 35 (([c0, c1, c2, c3].drop 3).take (Tryd.prog.cellsOf 35)) = some x3 := hf 3 _ rfl
  rw [cellsBlks] at h3
  have hw0 : ∀ k ∈ x0.1.weights Tryd.prog 9, k ≤ reachBytes := by
    intro k hk
    refine hw k ?_
    unfold DataW.weights
    rw [Tryd.underlying37]
    simp only [List.map_cons, List.map_nil, DataW.weightsEach]
    simp [hk]
  have hw3 : ∀ k ∈ x3.1.weights Tryd.prog 35, k ≤ reachBytes := by
    intro k hk
    refine hw k ?_
    unfold DataW.weights
    rw [Tryd.underlying37]
    simp only [List.map_cons, List.map_nil, DataW.weightsEach]
    simp [hk]
  obtain ⟨k0, e0, ex0, _⟩ := DataW.trod_string Tryd.underlying9 h0
  have z0 : k0.size ≤ reachBytes := by
    have := hw0 k0.data.toList.length (by rw [ex0]; unfold DataW.weights; simp)
    simpa using this
  obtain ⟨k1, e1, _, w1⟩ := DataW.trod_int Tryd.underlying3 h1
  obtain ⟨k2, e2, _, w2⟩ := DataW.trod_int Tryd.underlying3 h2
  obtain ⟨p3, g3, s3, e3, q3⟩ := rd_slice (R := BlkR w) Tryd.underlying35 cellsBlk bytesBlk (by omega) (fun _ _ _ _ hh hw => rd_blk hh hw) (d := x3.1) (ps := x3.2) h3 hw3
  simp at e0 e1 e2 e3
  subst e0 e1 e2 e3
  exact ⟨⟨k0, k1, k2, s3⟩, _, rfl, z0, I64.of_wf w1, I64.of_wf w2, ⟨p3, g3, rfl, capQ q3⟩⟩
theorem rd_glo (h : DataW.trod enc Tryd.prog w 0 (fun _ => true) true fuel 90 cs = some (d, ps)) (hw : ∀ k ∈ d.weights Tryd.prog 90, k ≤ reachBytes) : ∃ x, GloR w cs x := by
  obtain ⟨xs, n, _, hx, hlen, hxl, hf⟩ := DataW.trod_struct Tryd.underlying90 h
  simp only [Prod.mk.injEq] at hx
  obtain ⟨rfl, _⟩ := hx
  rw [cellsGlo] at hlen
  obtain ⟨c0, c1, c2, rfl⟩ := len_3 hlen
  obtain ⟨x0, x1, x2, rfl⟩ := len_3 (show xs.length = 3 by simpa using hxl)
  have h0 : DataW.trod enc Tryd.prog w 0 (fun _ => true) true n 9 (([c0, c1, c2].drop 0).take (Tryd.prog.cellsOf 9)) = some x0 := hf 0 _ rfl
  rw [cellsStr] at h0
  have h1 : DataW.trod enc Tryd.prog w 0 (fun _ => true) true n 3 (([c0, c1, c2].drop 1).take (Tryd.prog.cellsOf 3)) = some x1 := hf 1 _ rfl
  rw [cellsInt] at h1
  have h2 : DataW.trod enc Tryd.prog w 0 (fun _ => true) true n 46 (([c0, c1, c2].drop 2).take (Tryd.prog.cellsOf 46)) = some x2 := hf 2 _ rfl
  rw [cellsInts] at h2
  have hw0 : ∀ k ∈ x0.1.weights Tryd.prog 9, k ≤ reachBytes := by
    intro k hk
    refine hw k ?_
    unfold DataW.weights
    rw [Tryd.underlying90]
    simp only [List.map_cons, List.map_nil, DataW.weightsEach]
    simp [hk]
  have hw2 : ∀ k ∈ x2.1.weights Tryd.prog 46, k ≤ reachBytes := by
    intro k hk
    refine hw k ?_
    unfold DataW.weights
    rw [Tryd.underlying90]
    simp only [List.map_cons, List.map_nil, DataW.weightsEach]
    simp [hk]
  obtain ⟨k0, e0, ex0, _⟩ := DataW.trod_string Tryd.underlying9 h0
  have z0 : k0.size ≤ reachBytes := by
    have := hw0 k0.data.toList.length (by rw [ex0]; unfold DataW.weights; simp)
    simpa using this
  obtain ⟨k1, e1, _, w1⟩ := DataW.trod_int Tryd.underlying3 h1
  obtain ⟨p2, g2, s2, e2, q2⟩ := rd_slice (R := IntR) Tryd.underlying46 cellsInt bytesInt (by omega) (fun _ _ _ _ hh _ => rd_int hh) (d := x2.1) (ps := x2.2) h2 hw2
  simp at e0 e1 e2
  subst e0 e1 e2
  exact ⟨⟨k0, k1, s2⟩, _, rfl, z0, I64.of_wf w1, ⟨p2, g2, rfl, capQ q2⟩⟩
theorem rd_uni (h : DataW.trod enc Tryd.prog w 0 (fun _ => true) true fuel 25 cs = some (d, ps)) (hw : ∀ k ∈ d.weights Tryd.prog 25, k ≤ reachBytes) : ∃ x, UniR w cs x := by
  obtain ⟨xs, n, _, hx, hlen, hxl, hf⟩ := DataW.trod_struct Tryd.underlying25 h
  simp only [Prod.mk.injEq] at hx
  obtain ⟨rfl, _⟩ := hx
  rw [cellsUni] at hlen
  obtain ⟨c0, c1, rfl⟩ := len_2 hlen
  obtain ⟨x0, x1, rfl⟩ := len_2 (show xs.length = 2 by simpa using hxl)
  have h0 : DataW.trod enc Tryd.prog w 0 (fun _ => true) true n 22 (([c0, c1].drop 0).take (Tryd.prog.cellsOf 22)) = some x0 := hf 0 _ rfl
  rw [cellsGlos] at h0
  have h1 : DataW.trod enc Tryd.prog w 0 (fun _ => true) true n 23 (([c0, c1].drop 1).take (Tryd.prog.cellsOf 23)) = some x1 := hf 1 _ rfl
  rw [cellsFuns] at h1
  have hw0 : ∀ k ∈ x0.1.weights Tryd.prog 22, k ≤ reachBytes := by
    intro k hk
    refine hw k ?_
    unfold DataW.weights
    rw [Tryd.underlying25]
    simp only [List.map_cons, List.map_nil, DataW.weightsEach]
    simp [hk]
  have hw1 : ∀ k ∈ x1.1.weights Tryd.prog 23, k ≤ reachBytes := by
    intro k hk
    refine hw k ?_
    unfold DataW.weights
    rw [Tryd.underlying25]
    simp only [List.map_cons, List.map_nil, DataW.weightsEach]
    simp [hk]
  obtain ⟨p0, g0, s0, e0, q0⟩ := rd_slice (R := GloR w) Tryd.underlying22 cellsGlo bytesGlo (by omega) (fun _ _ _ _ hh hw => rd_glo hh hw) (d := x0.1) (ps := x0.2) h0 hw0
  obtain ⟨p1, g1, s1, e1, q1⟩ := rd_slice (R := FunR w) Tryd.underlying23 cellsFun bytesFun (by omega) (fun _ _ _ _ hh hw => rd_fun hh hw) (d := x1.1) (ps := x1.2) h1 hw1
  simp at e0 e1
  subst e0 e1
  exact ⟨⟨s0, s1⟩, _, _, rfl, ⟨p0, g0, rfl, capQ q0⟩, ⟨p1, g1, rfl, capQ q1⟩⟩
end
end Go.Proofs.YtdjamkinijhjoaaDoor
namespace Go.Proofs.YtdjamkinijhjoaaDoor
open Go.RowKit

theorem run_eqVal (r r' : Bool) (x x' : Int) (w : World) :
    (binOp .eql 45 (.agg #[.bool r, .int .i64 x]) (.agg #[.bool r', .int .i64 x'])).run Tryd.prog w = .ok (.bool (r == r' && x == x')) w := by
  by_cases h1 : r = r' <;> by_cases h2 : x = x' <;> simp [go_sem, h1, h2]
theorem run_neVal (r r' : Bool) (x x' : Int) (w : World) :
    (binOp .neq 45 (.agg #[.bool r, .int .i64 x]) (.agg #[.bool r', .int .i64 x'])).run Tryd.prog w = .ok (.bool (!(r == r' && x == x'))) w := by
  by_cases h1 : r = r' <;> by_cases h2 : x = x' <;> simp [go_sem, h1, h2]
theorem run_eqFault (x y x' y' : Int) (w : World) :
    (binOp .eql 28 (.agg #[.int .i64 x, .int .i64 y]) (.agg #[.int .i64 x', .int .i64 y'])).run Tryd.prog w = .ok (.bool (x == x' && y == y')) w := by
  by_cases h1 : x = x' <;> by_cases h2 : y = y' <;> simp [go_sem, h1, h2]
theorem run_neFault (x y x' y' : Int) (w : World) :
    (binOp .neq 28 (.agg #[.int .i64 x, .int .i64 y]) (.agg #[.int .i64 x', .int .i64 y'])).run Tryd.prog w = .ok (.bool (!(x == x' && y == y'))) w := by
  by_cases h1 : x = x' <;> by_cases h2 : y = y' <;> simp [go_sem, h1, h2]
end Go.Proofs.YtdjamkinijhjoaaDoor
namespace Go.Proofs.YtdjamkinijhjoaaDoor
open Go.RowKit

theorem hidI {p : Prop} (h : p) : Hid p := h

theorem ltHeap {w : World} {b : Nat} {o : Obj} (h : w.heap[b]? = some o) : b < w.heap.size := by
  rcases Nat.lt_or_ge b w.heap.size with g | g
  · exact g
  · rw [Array.getElem?_eq_none g] at h; cases h

theorem SliceAt.mono {α : Type} {w w' : World} {size : Nat} {R R' : List Value → α → Prop} {p : Option Addr} {xs : List α} (h : SliceAt w size R p xs) (hb : Below w.heap.size w w') (_hs : 0 < size) (hR : ∀ cs x, R cs x → R' cs x) : SliceAt w' size R' p xs := by
  rcases h with h | ⟨b, o, hp, h⟩
  · exact .inl h
  · refine .inr ⟨b, o, hp, fun i hi => ?_⟩
    obtain ⟨cs, hl, hc, hr⟩ := h i hi
    refine ⟨cs, hl, fun j hj => ?_, hR _ _ hr⟩
    have hc0 := hc j hj
    rw [List.getElem?_eq_getElem (by omega)] at hc0
    rw [hb.cell (p := ⟨b, o + i * size + j, none⟩) (lt_of_cell hc0), hc j hj]
theorem SlF.mono {α : Type} {w w' : World} {size bytes : Nat} {R R' : List Value → α → Prop} {v : Value} {xs : List α} (h : SlF w size bytes R v xs) (hb : Below w.heap.size w w') (hs : 0 < size) (hR : ∀ cs x, R cs x → R' cs x) : SlF w' size bytes R' v xs := by
  obtain ⟨p, c, h1, h2, h3, h4, h5⟩ := h
  exact ⟨p, c, h1, h2, h3, h4, h5.mono hb hs hR⟩
theorem InsR.below {w w' : World} {cs : List Value} {x : InsL} (h : InsR w cs x) (hb : Below w.heap.size w w') : InsR w' cs x := by
  obtain ⟨v, h0, h1, h2, h3, h4, h5, h6⟩ := h
  exact ⟨v, h0, h1, h2, h3, h4, h5, h6.mono hb (by omega) fun _ _ h => h⟩
theorem PhiR.below {w w' : World} {cs : List Value} {x : PhiL} (h : PhiR w cs x) (hb : Below w.heap.size w w') : PhiR w' cs x := by
  obtain ⟨v, h0, h1, h6⟩ := h
  exact ⟨v, h0, h1, h6.mono hb (by omega) fun _ _ h => h⟩
theorem BlkR.below {w w' : World} {cs : List Value} {x : BlkL} (h : BlkR w cs x) (hb : Below w.heap.size w w') : BlkR w' cs x := by
  obtain ⟨v1, v2, v3, h0, h1, h2, h3, h4, h5⟩ := h
  exact ⟨v1, v2, v3, h0, h1, h2, h3.mono hb (by omega) fun _ _ h => h.below hb, h4.mono hb (by omega) fun _ _ h => h.below hb, h5.mono hb (by omega) fun _ _ h => h⟩
theorem FunR.below {w w' : World} {cs : List Value} {x : FunL} (h : FunR w cs x) (hb : Below w.heap.size w w') : FunR w' cs x := by
  obtain ⟨v, h0, h1, h2, h3, h4⟩ := h
  exact ⟨v, h0, h1, h2, h3, h4.mono hb (by omega) fun _ _ h => h.below hb⟩
theorem GloR.below {w w' : World} {cs : List Value} {x : GloL} (h : GloR w cs x) (hb : Below w.heap.size w w') : GloR w' cs x := by
  obtain ⟨v, h0, h1, h2, h3⟩ := h
  exact ⟨v, h0, h1, h2, h3.mono hb (by omega) fun _ _ h => h⟩

theorem glosMono {w w' : World} {p : Option Addr} {xs : List GloL} (h : SliceAt w 3 (GloR w) p xs) (hb : Below w.heap.size w w') : SliceAt w' 3 (GloR w') p xs := h.mono hb (by omega) fun _ _ h => h.below hb
theorem funsMono {w w' : World} {p : Option Addr} {xs : List FunL} (h : SliceAt w 4 (FunR w) p xs) (hb : Below w.heap.size w w') : SliceAt w' 4 (FunR w') p xs := h.mono hb (by omega) fun _ _ h => h.below hb
theorem blksMono {w w' : World} {p : Option Addr} {xs : List BlkL} (h : SliceAt w 6 (BlkR w) p xs) (hb : Below w.heap.size w w') : SliceAt w' 6 (BlkR w') p xs := h.mono hb (by omega) fun _ _ h => h.below hb
theorem inssMono {w w' : World} {p : Option Addr} {xs : List InsL} (h : SliceAt w 8 (InsR w) p xs) (hb : Below w.heap.size w w') : SliceAt w' 8 (InsR w') p xs := h.mono hb (by omega) fun _ _ h => h.below hb

theorem SlF.out {α : Type} {w : World} {size bytes : Nat} {R : List Value → α → Prop} {v : Value} {xs : List α} (h : SlF w size bytes R v xs) : ∃ p c, v = .slice p xs.length c ∧ xs.length * bytes ≤ 140737488351232 ∧ SliceAt w size R p xs := by
  obtain ⟨p, c, h1, _, _, h4, h5⟩ := h
  exact ⟨p, c, h1, by unfold reachBytes at h4; exact h4, h5⟩

theorem intGet {w w' : World} {p : Option Addr} {xs : List Int} (h : SliceAt w 1 IntR p xs) (hb : Below w.heap.size w w') {i : Nat} (hi : i < xs.length) :
    ∃ b o, p = some ⟨b, o, none⟩ ∧ w'.cell? ⟨b, o + i, none⟩ = some (.int .i64 xs[i]) ∧ I64 xs[i] := by
  rcases h with rfl | ⟨b, o, hp, h⟩
  · simp at hi
  · obtain ⟨cs, _, hc, ⟨rfl, hw⟩⟩ := h i hi
    have h0 := hc 0 (by omega)
    simp only [Nat.mul_one, Nat.add_zero, List.getElem?_cons_zero] at h0
    exact ⟨b, o, hp, (hb.cell (p := ⟨b, o + i, none⟩) (lt_of_cell h0)).trans h0, hw⟩
theorem valGet {w w' : World} {p : Option Addr} {xs : List (Bool × Int)} (h : SliceAt w 2 ValR p xs) (hb : Below w.heap.size w w') {i : Nat} (hi : i < xs.length) :
    ∃ b o, p = some ⟨b, o, none⟩ ∧ w'.cell? ⟨b, o + i * 2, none⟩ = some (.bool xs[i].1) ∧ w'.cell? ⟨b, o + i * 2 + 1, none⟩ = some (.int .i64 xs[i].2) ∧ I64 xs[i].2 := by
  rcases h with rfl | ⟨b, o, hp, h⟩
  · simp at hi
  · obtain ⟨cs, _, hc, ⟨rfl, hw⟩⟩ := h i hi
    have h0 : w.cell? ⟨b, o + i * 2, none⟩ = some (.bool xs[i].1) := hc 0 (by omega)
    have h1 : w.cell? ⟨b, o + i * 2 + 1, none⟩ = some (.int .i64 xs[i].2) := hc 1 (by omega)
    have hl := lt_of_cell h0
    exact ⟨b, o, hp, (hb.cell (p := ⟨b, _, none⟩) hl).trans h0, (hb.cell (p := ⟨b, _, none⟩) hl).trans h1, hw⟩
theorem phiGet {w w' : World} {p : Option Addr} {xs : List PhiL} (h : SliceAt w 2 (PhiR w) p xs) (hb : Below w.heap.size w w') {i : Nat} (hi : i < xs.length) :
    ∃ b o q c, p = some ⟨b, o, none⟩ ∧ w'.cell? ⟨b, o + i * 2, none⟩ = some (.int .i64 xs[i].dst) ∧ w'.cell? ⟨b, o + i * 2 + 1, none⟩ = some (.slice q xs[i].src.length c) ∧ I64 xs[i].dst ∧ xs[i].src.length * 16 ≤ 140737488351232 ∧ SliceAt w' 2 ValR q xs[i].src := by
  rcases h with rfl | ⟨b, o, hp, h⟩
  · simp at hi
  · obtain ⟨cs, _, hc, hr⟩ := h i hi
    obtain ⟨v, rfl, hw, hs⟩ := hr
    obtain ⟨q, c, rfl, hl2, hs2⟩ := hs.out
    have h0 : w.cell? ⟨b, o + i * 2, none⟩ = some (.int .i64 xs[i].dst) := hc 0 (by omega)
    have h1 : w.cell? ⟨b, o + i * 2 + 1, none⟩ = some (.slice q xs[i].src.length c) := hc 1 (by omega)
    have hl := lt_of_cell h0
    exact ⟨b, o, q, c, hp, (hb.cell (p := ⟨b, _, none⟩) hl).trans h0, (hb.cell (p := ⟨b, _, none⟩) hl).trans h1, hw, hl2, hs2.mono hb (by omega) fun _ _ h => h⟩
theorem insGet {w w' : World} {p : Option Addr} {xs : List InsL} (h : SliceAt w 8 (InsR w) p xs) (hb : Below w.heap.size w w') {i : Nat} (hi : i < xs.length) :
    ∃ b o q c, p = some ⟨b, o, none⟩ ∧ w'.cell? ⟨b, o + i * 8, none⟩ = some (.int .i64 xs[i].op) ∧ w'.cell? ⟨b, o + i * 8 + 1, none⟩ = some (.int .i64 xs[i].dst) ∧ w'.cell? ⟨b, o + i * 8 + 2, none⟩ = some (.bool xs[i].ar) ∧ w'.cell? ⟨b, o + i * 8 + 3, none⟩ = some (.int .i64 xs[i].an) ∧ w'.cell? ⟨b, o + i * 8 + 4, none⟩ = some (.bool xs[i].br) ∧ w'.cell? ⟨b, o + i * 8 + 5, none⟩ = some (.int .i64 xs[i].bn) ∧ w'.cell? ⟨b, o + i * 8 + 6, none⟩ = some (.int .i64 xs[i].fn) ∧ w'.cell? ⟨b, o + i * 8 + 7, none⟩ = some (.slice q xs[i].args.length c) ∧ I64 xs[i].op ∧ I64 xs[i].dst ∧ I64 xs[i].an ∧ I64 xs[i].bn ∧ I64 xs[i].fn ∧ xs[i].args.length * 16 ≤ 140737488351232 ∧ SliceAt w' 2 ValR q xs[i].args := by
  rcases h with rfl | ⟨b, o, hp, h⟩
  · simp at hi
  · obtain ⟨cs, _, hc, hr⟩ := h i hi
    obtain ⟨v, rfl, w1, w2, w3, w4, w5, hs⟩ := hr
    obtain ⟨q, c, rfl, hl2, hs2⟩ := hs.out
    have h0 : w.cell? ⟨b, o + i * 8, none⟩ = some (.int .i64 xs[i].op) := hc 0 (by omega)
    have hl := lt_of_cell h0
    have g : ∀ j, j < 8 → w'.cell? ⟨b, o + i * 8 + j, none⟩ = w.cell? ⟨b, o + i * 8 + j, none⟩ := fun j _ => hb.cell (p := ⟨b, _, none⟩) hl
    exact ⟨b, o, q, c, hp, (g 0 (by omega)).trans h0, (g 1 (by omega)).trans (hc 1 (by omega)), (g 2 (by omega)).trans (hc 2 (by omega)), (g 3 (by omega)).trans (hc 3 (by omega)), (g 4 (by omega)).trans (hc 4 (by omega)), (g 5 (by omega)).trans (hc 5 (by omega)), (g 6 (by omega)).trans (hc 6 (by omega)), (g 7 (by omega)).trans (hc 7 (by omega)), w1, w2, w3, w4, w5, hl2, hs2.mono hb (by omega) fun _ _ h => h⟩
theorem blkGet {w w' : World} {p : Option Addr} {xs : List BlkL} (h : SliceAt w 6 (BlkR w) p xs) (hb : Below w.heap.size w w') {i : Nat} (hi : i < xs.length) :
    ∃ b o q1 c1 q2 c2 q3 c3, p = some ⟨b, o, none⟩ ∧ w'.cell? ⟨b, o + i * 6, none⟩ = some (.slice q1 xs[i].phis.length c1) ∧ w'.cell? ⟨b, o + i * 6 + 1, none⟩ = some (.slice q2 xs[i].list.length c2) ∧ w'.cell? ⟨b, o + i * 6 + 2, none⟩ = some (.int .i64 xs[i].fin.kind) ∧ w'.cell? ⟨b, o + i * 6 + 3, none⟩ = some (.bool xs[i].fin.onr) ∧ w'.cell? ⟨b, o + i * 6 + 4, none⟩ = some (.int .i64 xs[i].fin.onn) ∧ w'.cell? ⟨b, o + i * 6 + 5, none⟩ = some (.slice q3 xs[i].fin.to.length c3) ∧ I64 xs[i].fin.kind ∧ I64 xs[i].fin.onn ∧
      xs[i].phis.length * 32 ≤ 140737488351232 ∧ xs[i].list.length * 80 ≤ 140737488351232 ∧ xs[i].fin.to.length * 8 ≤ 140737488351232 ∧ SliceAt w' 2 (PhiR w') q1 xs[i].phis ∧ SliceAt w' 8 (InsR w') q2 xs[i].list ∧ SliceAt w' 1 IntR q3 xs[i].fin.to := by
  rcases h with rfl | ⟨b, o, hp, h⟩
  · simp at hi
  · obtain ⟨cs, _, hc, hr⟩ := h i hi
    obtain ⟨v1, v2, v3, rfl, w1, w2, hs1, hs2, hs3⟩ := hr
    obtain ⟨q1, c1, rfl, l1, t1⟩ := hs1.out
    obtain ⟨q2, c2, rfl, l2, t2⟩ := hs2.out
    obtain ⟨q3, c3, rfl, l3, t3⟩ := hs3.out
    have h0 : w.cell? ⟨b, o + i * 6, none⟩ = some (.slice q1 xs[i].phis.length c1) := hc 0 (by omega)
    have hl := lt_of_cell h0
    have g : ∀ j, j < 6 → w'.cell? ⟨b, o + i * 6 + j, none⟩ = w.cell? ⟨b, o + i * 6 + j, none⟩ := fun j _ => hb.cell (p := ⟨b, _, none⟩) hl
    exact ⟨b, o, q1, c1, q2, c2, q3, c3, hp, (g 0 (by omega)).trans h0, (g 1 (by omega)).trans (hc 1 (by omega)), (g 2 (by omega)).trans (hc 2 (by omega)), (g 3 (by omega)).trans (hc 3 (by omega)), (g 4 (by omega)).trans (hc 4 (by omega)), (g 5 (by omega)).trans (hc 5 (by omega)), w1, w2, l1, l2, l3, t1.mono hb (by omega) fun _ _ h => h.below hb, t2.mono hb (by omega) fun _ _ h => h.below hb, t3.mono hb (by omega) fun _ _ h => h⟩
theorem funGet {w w' : World} {p : Option Addr} {xs : List FunL} (h : SliceAt w 4 (FunR w) p xs) (hb : Below w.heap.size w w') {i : Nat} (hi : i < xs.length) :
    ∃ b o q c, p = some ⟨b, o, none⟩ ∧ w'.cell? ⟨b, o + i * 4, none⟩ = some (.string xs[i].name) ∧ w'.cell? ⟨b, o + i * 4 + 1, none⟩ = some (.int .i64 xs[i].params) ∧ w'.cell? ⟨b, o + i * 4 + 2, none⟩ = some (.int .i64 xs[i].regs) ∧ w'.cell? ⟨b, o + i * 4 + 3, none⟩ = some (.slice q xs[i].blocks.length c) ∧
      xs[i].name.size ≤ 140737488351232 ∧ I64 xs[i].params ∧ I64 xs[i].regs ∧ xs[i].blocks.length * 96 ≤ 140737488351232 ∧ SliceAt w' 6 (BlkR w') q xs[i].blocks := by
  rcases h with rfl | ⟨b, o, hp, h⟩
  · simp at hi
  · obtain ⟨cs, _, hc, hr⟩ := h i hi
    obtain ⟨v, rfl, w0, w1, w2, hs⟩ := hr
    obtain ⟨q, c, rfl, hl2, hs2⟩ := hs.out
    have h0 : w.cell? ⟨b, o + i * 4, none⟩ = some (.string xs[i].name) := hc 0 (by omega)
    have hl := lt_of_cell h0
    have g : ∀ j, j < 4 → w'.cell? ⟨b, o + i * 4 + j, none⟩ = w.cell? ⟨b, o + i * 4 + j, none⟩ := fun j _ => hb.cell (p := ⟨b, _, none⟩) hl
    exact ⟨b, o, q, c, hp, (g 0 (by omega)).trans h0, (g 1 (by omega)).trans (hc 1 (by omega)), (g 2 (by omega)).trans (hc 2 (by omega)), (g 3 (by omega)).trans (hc 3 (by omega)), by unfold reachBytes at w0; omega, w1, w2, hl2, hs2.mono hb (by omega) fun _ _ h => h.below hb⟩
theorem gloGet {w w' : World} {p : Option Addr} {xs : List GloL} (h : SliceAt w 3 (GloR w) p xs) (hb : Below w.heap.size w w') {i : Nat} (hi : i < xs.length) :
    ∃ b o q c, p = some ⟨b, o, none⟩ ∧ w'.cell? ⟨b, o + i * 3, none⟩ = some (.string xs[i].name) ∧ w'.cell? ⟨b, o + i * 3 + 1, none⟩ = some (.int .i64 xs[i].size) ∧ w'.cell? ⟨b, o + i * 3 + 2, none⟩ = some (.slice q xs[i].init.length c) ∧
      xs[i].name.size ≤ 140737488351232 ∧ I64 xs[i].size ∧ xs[i].init.length * 8 ≤ 140737488351232 ∧ SliceAt w' 1 IntR q xs[i].init := by
  rcases h with rfl | ⟨b, o, hp, h⟩
  · simp at hi
  · obtain ⟨cs, _, hc, hr⟩ := h i hi
    obtain ⟨v, rfl, w0, w1, hs⟩ := hr
    obtain ⟨q, c, rfl, hl2, hs2⟩ := hs.out
    have h0 : w.cell? ⟨b, o + i * 3, none⟩ = some (.string xs[i].name) := hc 0 (by omega)
    have hl := lt_of_cell h0
    have g : ∀ j, j < 3 → w'.cell? ⟨b, o + i * 3 + j, none⟩ = w.cell? ⟨b, o + i * 3 + j, none⟩ := fun j _ => hb.cell (p := ⟨b, _, none⟩) hl
    exact ⟨b, o, q, c, hp, (g 0 (by omega)).trans h0, (g 1 (by omega)).trans (hc 1 (by omega)), (g 2 (by omega)).trans (hc 2 (by omega)), by unfold reachBytes at w0; omega, w1, hl2, hs2.mono hb (by omega) fun _ _ h => h⟩
end Go.Proofs.YtdjamkinijhjoaaDoor
namespace Go.Proofs.YtdjamkinijhjoaaDoor
open Go.RowKit



/-- the ways between blocks, in the order of the text: (to, from) -/
def waysOf (T : List (List Int)) : Nat → List (Nat × Nat)
  | 0 => []
  | i + 1 => waysOf T i ++ (T.getD i []).map fun t => (t.toNat, i)
/-- the blocks that lead to t -/
def rowOf (ps : List (Nat × Nat)) (t : Nat) : List Nat := (ps.filter (·.1 == t)).map (·.2)

theorem rowOf_same (ps : List (Nat × Nat)) (t i : Nat) : rowOf (ps ++ [(t, i)]) t = rowOf ps t ++ [i] := by
  simp [rowOf, List.filter_append]
theorem rowOf_other (ps : List (Nat × Nat)) {t u : Nat} (i : Nat) (h : u ≠ t) : rowOf (ps ++ [(t, i)]) u = rowOf ps u := by
  have h2 : (t == u) = false := by simp; omega
  simp [rowOf, List.filter_append, h2]
theorem rowOf_le (ps : List (Nat × Nat)) (t : Nat) : (rowOf ps t).length ≤ ps.length := by
  unfold rowOf; rw [List.length_map]; exact List.length_filter_le _ _
theorem waysOf_le (T : List (List Int)) (k n : Nat) (hk : k ≤ n) (h : ∀ i, i < n → (T.getD i []).length ≤ 2) : (waysOf T k).length ≤ 2 * k := by
  induction k with
  | zero => simp [waysOf]
  | succ k ih =>
    have := ih (by omega)
    have := h k (by omega)
    simp only [waysOf, List.length_append, List.length_map]
    omega
end Go.Proofs.YtdjamkinijhjoaaDoor
namespace Go.Proofs.YtdjamkinijhjoaaDoor
open Go.RowKit

/-- block T is a table of n rows of numbers, each in its own memory from block B on; they read as ps says -/
structure Rows2 (w : World) (B T : Nat) (n : Nat) (ts ti : TypeId) (ps : List (Nat × Nat)) (f : Nat → Value) : Prop where
  tab : w.rowIs T ts n f
  row : ∀ j, j < n → w.ownsRow B ti 1 (f j) (rowOf ps j).length ((rowOf ps j).map fun i : Nat => .int .i64 (i : Int))
  two : ∀ j k, j < n → k < n → j ≠ k → (f j).ownBlock = none ∨ (f j).ownBlock ≠ (f k).ownBlock
  low : T < B

theorem Rows2.alloc {w : World} {B T n : Nat} {ts ti : TypeId} {ps : List (Nat × Nat)} {f : Nat → Value} (h : Rows2 w B T n ts ti ps f) (o : Obj) : Rows2 (w.alloc o) B T n ts ti ps f :=
  ⟨h.tab.alloc o, fun j hj => (h.row j hj).alloc o, h.two, h.low⟩
theorem Rows2.drew {w : World} {B T n : Nat} {ts ti : TypeId} {ps : List (Nat × Nat)} {f : Nat → Value} (h : Rows2 w B T n ts ti ps f) : Rows2 w.drew B T n ts ti ps f :=
  ⟨h.tab.drew, fun j hj => (h.row j hj).drew, h.two, h.low⟩

theorem Rows2.made (w : World) (n : Nat) (ts ti : TypeId) : Rows2 (w.alloc (.cells (madeCells #[.slice none 0 0] n) ts)) (w.heap.size + 1) w.heap.size n ts ti [] (fun _ => .slice none 0 0) :=
  ⟨World.rowIs_made w _ n ts, fun j _ => World.ownsRow_nil _ _ _ _, fun _ _ _ _ _ => .inl rfl, by omega⟩

theorem Rows2.put {w w' : World} {B T n : Nat} {ts ti : TypeId} {ps : List (Nat × Nat)} {f : Nat → Value} (h : Rows2 w B T n ts ti ps f) (hB : B ≤ w.heap.size) {t i : Nat} (ht : t < n) {v' : Value}
    (hown : w'.ownsRow B ti 1 v' ((rowOf ps t).length + 1) (((rowOf ps t).map fun i : Nat => .int .i64 (i : Int)) ++ [.int .i64 (i : Int)])) (hg : w.grownBy w' (f t).ownBlock)
    (hv : v'.ownBlock = (f t).ownBlock ∨ v'.ownBlock = some w.heap.size) :
    Rows2 (w'.setCell ⟨T, t, none⟩ v') B T n ts ti (ps ++ [(t, i)]) (fun j => if j = t then v' else f j) := by
  have hlow : ∀ j, j < n → ∀ k, (f j).ownBlock = some k → B ≤ k ∧ k < w.heap.size := fun j hj k hk => (h.row j hj).lt k hk
  have hT : some T ≠ (f t).ownBlock := fun e => by have := (hlow t ht T e.symm).1; have := h.low; omega
  have hTw : T < w.heap.size := by have := h.low; omega
  have keep : ∀ (v : Value) (m : Nat) (xs : List Value), w'.ownsRow B ti 1 v m xs → (w'.setCell ⟨T, t, none⟩ v').ownsRow B ti 1 v m xs := fun v m xs ho => by
    refine ho.kept (row := some T) ⟨rfl, rfl, rfl, by simp [World.setCell], fun k hk hne => ?_⟩ ?_
    · exact Below.heap_setCell _ _ _ _ (fun e => hne (by rw [e]))
    · cases hb : v.ownBlock with
      | none => exact .inl rfl
      | some k => exact .inr (fun e => by have h1 := (ho.lt k hb).1; have h2 := h.low; injection e with e; omega)
  refine ⟨?_, fun j hj => ?_, fun j k hj hk hjk => ?_, h.low⟩
  · exact (h.tab.of_block (hg.block T hTw hT)).set t v'
  · by_cases hjt : j = t
    · subst hjt
      simp only [if_true]
      rw [rowOf_same, List.length_append, List.map_append]
      exact keep _ _ _ hown
    · simp only [if_neg hjt]
      rw [rowOf_other _ _ hjt]
      exact keep _ _ _ ((h.row j hj).kept hg (h.two j t hj ht hjt))
  · show (if j = t then v' else f j).ownBlock = none ∨ (if j = t then v' else f j).ownBlock ≠ (if k = t then v' else f k).ownBlock
    by_cases hjt : j = t
    · have hkt : k ≠ t := fun e => hjk (hjt.trans e.symm)
      rw [if_pos hjt, if_neg hkt]
      rcases hv with e | e
      · rw [e]; exact h.two t k ht hk (fun e => hkt e.symm)
      · refine .inr (fun g => ?_)
        have := (hlow k hk _ (g.symm.trans e)).2
        omega
    · rw [if_neg hjt]
      by_cases hkt : k = t
      · rw [if_pos hkt]
        rcases hv with e | e
        · rw [e]; exact h.two j t hj ht hjt
        · cases hb : (f j).ownBlock with
          | none => exact .inl rfl
          | some q => exact .inr (fun g => by have := (hlow j hj q hb).2; rw [e] at g; injection g with g; omega)
      · rw [if_neg hkt]; exact h.two j k hj hk hjk
/-- behind a growing of one row the table reads as before -/
theorem Rows2.atTab {w w' : World} {B T n : Nat} {ts ti : TypeId} {ps : List (Nat × Nat)} {f : Nat → Value} (h : Rows2 w B T n ts ti ps f) {t : Nat} (ht : t < n) (hg : w.grownBy w' (f t).ownBlock) : w'.cell? ⟨T, t, none⟩ = some (f t) ∧ w'.frozen? ⟨T, t, none⟩ = false := by
  have hT : some T ≠ (f t).ownBlock := fun e => by have := ((h.row t ht).lt T e.symm).1; have := h.low; omega
  have hb := hg.block T h.tab.lt hT
  exact ⟨(World.cell?_of_block (a := ⟨T, t, none⟩) hb).trans (h.tab.cell ht), (World.frozen?_of_block (a := ⟨T, t, none⟩) hb).trans (h.tab.frozen t)⟩
end Go.Proofs.YtdjamkinijhjoaaDoor
namespace Go.Proofs.YtdjamkinijhjoaaDoor
open Go.RowKit

theorem underInts : Tryd.prog.underlying 46 = some (.slice 3) := by kernel_rfl
theorem underRows : Tryd.prog.underlying 94 = some (.slice 46) := by kernel_rfl
theorem infoInt : (Tryd.prog.info? 3).map (fun i => (i.zero, i.size, i.bytes)) = some (some (.int .i64 0), 1, 8) := by kernel_rfl
theorem infoInts : (Tryd.prog.info? 46).map (fun i => (i.zero, i.size, i.bytes)) = some (some (.slice none 0 0), 1, 24) := by kernel_rfl

/-- block i of a row of blocks: its cells; its targets read as to -/
def BlkAt (w : World) (b o i : Nat) (to : List Int) : Prop :=
  ∃ p1 l1 c1 p2 l2 c2 k r m p c, w.cell? ⟨b, o + i * 6, none⟩ = some (.slice p1 l1 c1) ∧ w.cell? ⟨b, o + i * 6 + 1, none⟩ = some (.slice p2 l2 c2) ∧ w.cell? ⟨b, o + i * 6 + 2, none⟩ = some (.int .i64 k) ∧
    w.cell? ⟨b, o + i * 6 + 3, none⟩ = some (.bool r) ∧ w.cell? ⟨b, o + i * 6 + 4, none⟩ = some (.int .i64 m) ∧ w.cell? ⟨b, o + i * 6 + 5, none⟩ = some (.slice p to.length c) ∧ SliceAt w 1 IntR p to

set_option maxRecDepth 100000 in
set_option maxHeartbeats 1000000 in
theorem ahead_any (nm : ByteArray) (params regs : Int) (bb bo bc n : Nat) (TS : List (List Int)) (w : World) (hn : n ≤ 40)
    (hB : ∀ i, i < n → BlkAt w bb bo i (TS.getD i []))
    (hE : ∀ i, i < n → (TS.getD i []).length ≤ 2 ∧ ∀ t ∈ TS.getD i [], 1 ≤ t ∧ t < n) :
    Calls Tryd.prog 70 #[.agg #[.string nm, .int .i64 params, .int .i64 regs, .slice (some ⟨bb, bo, none⟩) n bc]] w fun e w' =>
      (∃ f : Nat → Value, e = .returned (.slice (some ⟨w.heap.size + 1, 0, none⟩) n n) ∧ Rows2 w' (w.heap.size + 1 + 1) (w.heap.size + 1) n 46 3 (waysOf TS n) f) ∧ Below w.heap.size w w' := by
  obtain ⟨i1, k1, k2, k3, k4⟩ := info_parts infoInt
  obtain ⟨i2, l1, l2, l3, l4⟩ := info_parts infoInts
  have hmk := run_make_row 94 46 i2 (.slice none 0 0) underRows l1 l2 l3 rfl .i64 .i64 n (by rw [l4]; omega) (by omega)
  have HB : Hid (∀ i, i < n → BlkAt w bb bo i (TS.getD i [])) := hB
  have HE : Hid (∀ i, i < n → (TS.getD i []).length ≤ 2 ∧ ∀ t ∈ TS.getD i [], 1 ≤ t ∧ t < n) := hE
  clear hB hE
  go_enter Tryd.func70, Tryd.ntmps70
  go_wp2
  go_loopw [15] (fun i wr => ∃ k : Nat, k ≤ n ∧ i = .int .i64 k ∧ (∃ f, Rows2 wr (w.heap.size + 1 + 1) (w.heap.size + 1) n 46 3 (waysOf TS k) f) ∧ Below w.heap.size w wr) (fun i _ => n - (intOf i).toNat)
  case atStart => exact ⟨0, by omega, rfl, ⟨_, by have := Rows2.made (w.alloc (.cells #[.string nm, .int .i64 params, .int .i64 regs, .slice (some ⟨bb, bo, none⟩) n bc] 37)) n 46 3; simpa [waysOf] using this⟩, by repeat (first | with_reducible exact Below.refl _ _ | with_reducible exact HB3.out | with_reducible refine Below.drew ?_ | with_reducible refine below_drewN ?_ _ | with_reducible refine Below.setCell ?_ ?_ _ | with_reducible refine Below.alloc ?_ ?_ _ | with_reducible exact HB2.out | with_reducible exact HB1.out | with_reducible refine Below.trans ?_ (Below.mono hb3 ?_) | with_reducible refine Below.trans ?_ (Below.mono hb5 ?_) | with_reducible refine Below.trans ?_ (Below.mono hb4 ?_) | omega | (simp; omega) | simp)⟩
  case round =>
    obtain ⟨k, hk, rfl, ⟨f, hR⟩, hb⟩ := hrel
    have HBw : Hid (Below w.heap.size w wr) := hb
    have HR : Hid (Rows2 wr (w.heap.size + 1 + 1) (w.heap.size + 1) n 46 3 (waysOf TS k) f) := hR
    have hsz : w.heap.size + 1 < wr.heap.size := hR.tab.lt
    clear hb hR
    by_cases hlt : k < n
    · obtain ⟨p1, m1, c1, p2, m2, c2, kk, r, m, p, c, e0, e1, e2, e3, e4, e5, hto⟩ := HB.out k hlt
      have hbb := lt_of_cell e0
      rw [← HBw.out.cell (p := ⟨bb, bo + k * 6, none⟩) hbb] at e0
      rw [← HBw.out.cell (p := ⟨bb, bo + k * 6 + 1, none⟩) hbb] at e1
      rw [← HBw.out.cell (p := ⟨bb, bo + k * 6 + 2, none⟩) hbb] at e2
      rw [← HBw.out.cell (p := ⟨bb, bo + k * 6 + 3, none⟩) hbb] at e3
      rw [← HBw.out.cell (p := ⟨bb, bo + k * 6 + 4, none⟩) hbb] at e4
      rw [← HBw.out.cell (p := ⟨bb, bo + k * 6 + 5, none⟩) hbb] at e5
      obtain ⟨hl2, hts⟩ := HE.out k hlt
      have HTO : Hid (SliceAt w 1 IntR p (TS.getD k [])) := hto
      have HTS : Hid (∀ t ∈ TS.getD k [], 1 ≤ t ∧ t < n) := hts
      clear hto hts
      generalize hto : TS.getD k [] = to at *
      have HK : Hid (TS.getD k [] = to) := hto
      clear hto
      go_wp2
      go_loopw [24] (fun i wq => ∃ j : Nat, j ≤ to.length ∧ i = .int .i64 j ∧ (∃ f, Rows2 wq (w.heap.size + 1 + 1) (w.heap.size + 1) n 46 3 (waysOf TS k ++ (to.map fun t => (t.toNat, k)).take j) f) ∧ Below w.heap.size w wq) (fun i _ => to.length - (intOf i).toNat)
      case atStart => exact ⟨0, by omega, rfl, ⟨f, by simpa using HR.out.alloc _⟩, by have := HBw.out; exact this.alloc (by omega) _⟩
      case round =>
        clear HR HBw e0 e1 e2 e3 e4 e5
        obtain ⟨j, hj, rfl, ⟨f, hR⟩, hb⟩ := hrel
        have HBw : Hid (Below w.heap.size w wr) := hb
        have HR : Hid (Rows2 wr (w.heap.size + 1 + 1) (w.heap.size + 1) n 46 3 (waysOf TS k ++ (to.map fun t => (t.toNat, k)).take j) f) := hR
        have hsz : w.heap.size + 1 < wr.heap.size := hR.tab.lt
        clear hb hR
        by_cases hjl : j < to.length
        · obtain ⟨t, ht⟩ : ∃ t : Nat, to[j] = (t : Int) := ⟨to[j].toNat, by have := (HTS.out _ (List.getElem_mem hjl)).1; omega⟩
          have htn : t < n := by have := (HTS.out _ (List.getElem_mem hjl)).2; omega
          obtain ⟨tb, tof, hp, htc⟩ : ∃ tb tof, p = some ⟨tb, tof, none⟩ ∧ wr.cell? ⟨tb, tof + j, none⟩ = some (.int .i64 t) := by
            rcases HTO.out with h0 | ⟨tb, tof, hp, hc⟩
            · rw [h0] at hjl; simp at hjl
            · refine ⟨tb, tof, hp, ?_⟩
              obtain ⟨cs, _, hc, ⟨rfl, _⟩⟩ := hc j hjl
              have h2 := hc 0 (by omega)
              simp only [Nat.mul_one, Nat.add_zero, List.getElem?_cons_zero] at h2
              rw [HBw.out.cell (p := ⟨tb, tof + j, none⟩) (lt_of_cell h2), h2, ht]
          subst hp
          have hrow := HR.out.row t htn
          obtain ⟨q, qc, hq⟩ : ∃ q qc, f t = .slice q (rowOf (waysOf TS k ++ (to.map fun t => (t.toNat, k)).take j) t).length qc := by
            rcases hrow.2 with ⟨h1, h2⟩ | ⟨g, cap, cur, h1, _⟩
            · refine ⟨none, 0, ?_⟩
              rw [h1, h2]
            · exact ⟨_, _, h1⟩
          have HQ : Hid (f t = .slice q (rowOf (waysOf TS k ++ (to.map fun t => (t.toNat, k)).take j) t).length qc) := hq
          have hfc := HR.out.tab.cell htn
          have hff := HR.out.tab.frozen t
          rw [hq] at hfc hrow
          clear hq
          have HT : Hid (to[j]? = some (t : Int)) := by show _ = _; rw [List.getElem?_eq_getElem hjl, ht]
          clear ht
          have hm2 : (rowOf (waysOf TS k ++ (to.map fun t => (t.toNat, k)).take j) t).length ≤ 2 * k + 2 := by
            have h1 := rowOf_le (waysOf TS k ++ (to.map fun t => (t.toNat, k)).take j) t
            have h2 := waysOf_le TS k n hk (fun i hi => (HE.out i hi).1)
            rw [List.length_append, List.length_take, List.length_map] at h1
            omega
          generalize hm : (rowOf (waysOf TS k ++ (to.map fun t => (t.toNat, k)).take j) t).length = m at *
          have HM : Hid ((rowOf (waysOf TS k ++ (to.map fun t => (t.toNat, k)).take j) t).length = m) := hm
          clear hm
          go_wp2_with (at_builtin; refine wpList_append_own_at _ rfl _ _ 46 rfl (w.heap.size + 1 + 1) 3 i1 (.int .i64 0) 1 8 underInts k1 k2 k3 k4 rfl (by decide) _ _ _ rfl (hrow.alloc _) ⟨wr.heap.size, 0, none⟩ 1 1 [.int .i64 k] rfl rfl (cell_one_new _ _ _) (by simp [Value.oneCell']) ?_ ?_ ?_ ?_)
          · unfold maxLen; omega
          · omega
          · simp; omega
          intro v' w1 hown' hgrow _ hat
          have HP := (HR.out.alloc (.cells #[.int .i64 k] 3)).put (i := k) (by simp; omega) htn (v' := v') (w' := w1) (by rw [HM.out]; exact hown') (by rw [HQ.out]; exact hgrow) (by rw [HQ.out]; simpa using hat)
          obtain ⟨q2, c2', hv2⟩ : ∃ q2 c2, v' = .slice q2 (m + 1) c2 := by
            rcases hown'.2 with ⟨h1, h2⟩ | ⟨g, cap, cur, h1, _⟩
            · omega
            · exact ⟨_, _, h1⟩
          subst hv2
          obtain ⟨hc1, hf1⟩ := (HR.out.alloc (.cells #[.int .i64 k] 3)).atTab htn (w' := w1) (by rw [HQ.out]; exact hgrow)
          rw [HQ.out] at hc1
          have hbw := (HBw.out.alloc (by omega) (.cells #[.int .i64 k] 3)).grown hgrow (by simp; omega) (fun kk e => by have := (hrow.lt kk e).1; omega)
          have HB2 := hidI hbw
          have HP2 := hidI HP
          clear HP hown' hgrow hat hfc hff htc hrow hbw
          go_wp2
          refine ⟨⟨j + 1, by omega, by go_num, ⟨fun i => if i = t then Value.slice q2 (m + 1) c2' else f i, ?_⟩, ?_⟩, by simp [intOf]; omega⟩
          · rw [List.take_add_one, List.getElem?_map, HT.out]
            have HP3 := HP2.out
            rw [List.append_assoc] at HP3
            exact HP3
          · exact HB2.out.setCell (by show _ ≤ w.heap.size + 1; omega) _
        · go_wp2
          obtain rfl : j = to.length := by omega
          refine ⟨⟨k + 1, by omega, by go_num, ⟨f, ?_⟩, HBw.out⟩, by simp [intOf]; omega⟩
          have HR2 := HR.out
          rw [List.take_of_length_le (by simp)] at HR2
          unfold waysOf
          rw [HK.out]
          exact HR2
    · go_wp2
      go_ret
      obtain rfl : k = n := by omega
      exact ⟨⟨f, rfl, HR.out⟩, HBw.out⟩
end Go.Proofs.YtdjamkinijhjoaaDoor
