/-
  A loop over an iterator whose elements come in a known order: the body's walk is told the number of its round.
The contract of calls.Each where rounds may write the instructions: what the iterator itself reads stays.
-/
import Derived.Test.YtdjamkinijhjoaaDoorBCalG
import Derived.RangeFuncWrites
import Derived.WalkKit
import Derived.WalkSpells
import Derived.WalkLawsBesides
import Derived.Test.YtdjamkinijhjoaaDoorBOwn
namespace Go.Proofs.YtdjamkinijhjoaaDoor
open Go.RowKit Go.Shelf

/-- an iterator that hands over el 0, el 1, .. up to N, one behind the other -/
def SeqAt (F : Fence) (n : Nat) (P : Program) (g : Nat) (lb : Array Value) (el : Nat → Array Value) (N : Nat) (Kp : World → World → Prop) (w : World) : Prop :=
  ∀ (l : Nat) (J Jx : Nat → World → Prop) (W : World), Below w.heap.size w W → AbidesFrom W.heap.size J → AbidesFrom W.heap.size Jx →
    (∀ i W1, i < N → J i W1 → YieldAt F (n - 1) P l (el i) W1 fun e W' => (e = .returned (.bool true) ∧ J (i + 1) W' ∧ Kp W1 W') ∨ (e = .returned (.bool false) ∧ Jx i W')) → J 0 W →
    CallsIn F n P g (#[.func (.yield l) #[] #[]] ++ lb) W fun e W' => (∃ v, e = .returned v) ∧ (J N W' ∨ ∃ i, i < N ∧ Jx i W')
/-- how a round may end -/
def roundPost (B : Nat) (Kp : World → World → Prop) (I : Nat → World → Prop) (Ix : Code → Nat → World → Prop) (i : Nat) (W : World) (e : Exit) (W' : World) : Prop :=
  KeepsFrom B W W' ∧ match e with
    | .normal => Kp W W' ∧ I (i + 1) W'
    | .ret => Ix .ret i W'
    | .exit id => Ix (.exit id) i W'
    | .goto t => Ix (.goto t) i W'
    | _ => False
section
variable {F : Fence} {n : Nat} {P : Program} {g : Operand} {ps : Array Tmp} {assign body : Code} {Q : Exit → Act → World → Prop} {a : Act} {w : World} {gf : Nat} {lb : Array Value} {el : Nat → Array Value} {N : Nat} {Kp : World → World → Prop} {w0 : World}
theorem wpIn_rangeAt (hro : F.round = none) (h1 : 1 ≤ n) (hg : a.eval g = .func (.func gf) #[] lb) (hFg : F.fn gf) (eg : ∀ args w, (callFunc gf args).run P w = .ok (.enter gf args) w) (hseq : SeqAt F (n - 1) P gf lb el N Kp w0)
    (hKt : ∀ {A B C : World}, Kp A B → Kp B C → Kp A C) (hKb : ∀ (W : World) (l : Nat) (o o' : Obj), w.heap.size ≤ l → W.heap[l]? = some o → o.isCells = false → o.isWalk = false → Kp W (W.putObj l o')) (hb0 : Below w0.heap.size w0 w) (hps : ∀ i, i < N → (el i).size = ps.size)
    (I : Nat → World → Prop) (Ix : Code → Nat → World → Prop) (hI : OwnFrom w.heap.size I) (hIx : ∀ c, OwnFrom w.heap.size (Ix c)) (h0 : I 0 w) (a₁ : Nat → Act)
    (hassign : ∀ (l i : Nat) (W : World) (K : Act → World → Prop), i < N → K (a₁ i) W → assign.wpIn (F.inRound l) (n - 1 - 1) P (Exit.then K (fun _ _ _ => False)) { tmps := (ps.zip (el i)).foldl (fun t (p, v) => t.setIfInBounds p v) a.tmps, defers := [] } W)
    (hbody : ∀ (l i : Nat) (W : World), w.heap.size ≤ l → i < N → I i W → body.wpIn (F.inRound l) (n - 1 - 1) P (fun e _ W' => roundPost w.heap.size Kp I Ix i W e W') (a₁ i) W)
    (hdone : ∀ (D : Nat) (W : World), w.heap.size ≤ D → I N W → W.heap[D]? = some (.deferred (some [])) → Q .normal { a with defers := { target := .collected D, args := #[] } :: a.defers } W)
    (hstop : ∀ (D : Nat) (c : Code) (i : Nat) (W : World), w.heap.size ≤ D → i < N → Ix c i W → W.heap[D]? = some (.deferred (some [])) → c.wpIn F n P Q { a with defers := { target := .collected D, args := #[] } :: a.defers } W) :
    (Code.rangeFunc g ps assign body).wpIn F n P Q a w := by
  refine wpIn_rangeFunc fun fn hfn => ?_
  rw [hro]
  -- the record of the loop and the block for what rounds defer: the blocks L and D
  obtain ⟨rec, hrec⟩ : ∃ rec : LoopState → Option Code → Loop, rec = fun st pe => { state := st, pending := pe, fn, tmps := a.tmps, params := ps, assign, body, defers := w.heap.size } := ⟨_, rfl⟩
  have hst : ∀ st pe, { rec .ready none with state := st, pending := pe } = rec st pe := fun st pe => by rw [hrec]
  let Bk : LoopState → Option Code → World → Prop := fun st pe W => W.heap[w.heap.size + 1]? = some (.loop (rec st pe)) ∧ W.heap[w.heap.size]? = some (.deferred (some []))
  have hBk0 : Bk .ready none ((w.alloc (.deferred (some []))).alloc (.loop (rec .ready none))) :=
    ⟨heap_at (by simp), heap_step (heap_here w _)⟩
  have hBkg : ∀ {st pe A B row}, Bk st pe A → A.grownBy B row → (∀ r, row = some r → ∃ o : Obj, A.heap[r]? = some o ∧ o.isWalk = true) → Bk st pe B := fun h hg hr =>
    ⟨(grownBy_keeps hg hr h.1 rfl).trans h.1, (grownBy_keeps hg hr h.2 rfl).trans h.2⟩
  have hBkp : ∀ {st pe st' pe' A}, Bk st pe A → Bk st' pe' (A.putObj (w.heap.size + 1) (.loop (rec st' pe'))) := fun {st pe st' pe' A} h =>
    ⟨World.putObj_heap_same (ltHeap h.1), (World.putObj_heap_other (by omega)).trans h.2⟩
  obtain ⟨W1, hW1⟩ : ∃ W1, W1 = (w.alloc (.deferred (some []))).alloc (.loop (rec .ready none)) := ⟨_, rfl⟩
  rw [← hW1] at hBk0
  have hz1 : W1.heap.size = w.heap.size + 1 + 1 := by rw [hW1]; simp
  have hent : (Instr.enterLoop fn a.tmps ps assign body none).run P w = .ok (w.heap.size + 1, [{ target := .collected w.heap.size, args := #[] }]) W1 := by
    rw [hW1, hrec]; exact run_enterLoop_outer _ _ _ _ _
  refine ⟨w.heap.size + 1, [{ target := .collected w.heap.size, args := #[] }], W1, { target := .fn (.func gf) lb, args := #[.func (.yield (w.heap.size + 1)) #[] #[]] }, W1, gf,
    #[.func (.yield (w.heap.size + 1)) #[] #[]] ++ lb, W1, hent, ?_, fun f' hf' => by simp [Target.leads] at hf'; subst hf'; exact hFg, ?_, fun _ => h1, ?_⟩
  · simp only [resolve, hg]
    simp [go_sem]
  · simp [invoke, go_sem, eg]
  have hwalk : ∀ {A : World} {row : Option Nat}, (∀ r, row = some r → W1.heap.size ≤ r ∧ ∃ o : Obj, A.heap[r]? = some o ∧ o.isWalk = true) → ∀ r, row = some r → w.heap.size ≤ r ∧ ∃ o : Obj, A.heap[r]? = some o ∧ o.isCells = false := fun hr r e => by
    obtain ⟨hB, o, ho, hw⟩ := hr r e
    exact ⟨by omega, o, ho, Obj.not_cells_of_walk hw⟩
  refine (hseq (w.heap.size + 1) (fun i W => I i W ∧ Bk .ready none W) (fun i W => ∃ c, Ix c i W ∧ Bk .done (some c) W) _
    (by rw [hW1]; exact hb0.trans ((((Below.refl _ w).alloc (Nat.le_refl _) _).alloc (by simp) _).mono hb0.size))
    (fun s A B row hs hg' hr => ⟨hI s A B row hs.1 hg' (hwalk hr), hBkg hs.2 hg' fun r e => (hr r e).2⟩)
    (fun s A B row ⟨c, hc, hk⟩ hg' hr => ⟨c, hIx c s A B row hc hg' (hwalk hr), hBkg hk hg' fun r e => (hr r e).2⟩)
    (fun i W hlt ⟨hi, hk⟩ => ?_) ⟨by rw [hW1]; exact hI.alloc _ (hI.alloc _ h0), hBk0⟩).mono ?_
  · have hy := run_yield (P := P) (args := el i) hk.1 (by rw [hrec]; exact hps i hlt)
    rw [hrec] at hy
    refine ⟨fn, _, assign, body, hy, roundIn_of_wpIn hfn (hassign _ i W _ hlt ⟨_, run_beginRound hk.1 (by rw [hrec]), ?_⟩)⟩
    rw [show ({ rec .ready none with state := .busy } : Loop) = rec .busy none by rw [hrec]]
    have hkb := hBkp (st' := .busy) (pe' := none) hk
    refine wpIn_mono (hbody _ i _ (by omega) hlt (hI.putObj _ hi (by omega) hk.1 rfl)) fun e a3 W3 ⟨hk3, hp⟩ => ?_
    have hb3 : Bk .busy none W3 := ⟨hk3.same _ _ (by omega) hkb.1 rfl, hk3.same _ _ (Nat.le_refl _) hkb.2 rfl⟩
    have fin : ∀ jump : Option Code, (Instr.endRound (w.heap.size + 1) jump).run P W3 = .ok (.bool jump.isNone) (W3.putObj (w.heap.size + 1) (.loop (rec (if jump.isNone then .ready else .done) jump))) := fun jump => by
      have := run_endRound (P := P) jump hb3.1
      rw [hrec] at this ⊢
      exact this
    have leave : ∀ c : Code, Ix c i W3 → _ := fun c hc => (⟨.bool false, W3.putObj (w.heap.size + 1) (.loop (rec .done (some c))), fin (some c), .inr ⟨rfl, c, (hIx c).putObj _ hc (by omega) hb3.1 rfl, hBkp hb3⟩⟩ : ∃ v W4, (Instr.endRound (w.heap.size + 1) (some c)).run P W3 = .ok v W4 ∧ ((Ending.returned v = .returned (.bool true) ∧ (I (i + 1) W4 ∧ Bk .ready none W4) ∧ Kp W W4) ∨ (Ending.returned v = .returned (.bool false) ∧ ∃ c, Ix c i W4 ∧ Bk .done (some c) W4)))
    cases e with
    | normal =>
      exact ⟨_, _, fin none, .inl ⟨rfl, ⟨hI.putObj _ hp.2 (by omega) hb3.1 rfl, hBkp hb3⟩, hKt (hKt (hKb _ _ _ _ (by omega) hk.1 rfl rfl) hp.1) (hKb _ _ _ _ (by omega) hb3.1 rfl rfl)⟩⟩
    | ret => exact leave _ hp
    | exit id => exact leave _ hp
    | goto t => exact leave _ hp
    | panic ch => exact hp.elim
    | outgrown => exact hp.elim
  · have shut : ∀ {st pe W2}, st ≠ .busy → Bk st pe W2 → (Instr.endLoop (w.heap.size + 1)).run P W2 = .ok pe (W2.putObj (w.heap.size + 1) (.loop (rec .exhausted pe))) := fun {st pe W2} hne hk => by
      have := run_endLoop (P := P) hk.1 (by rw [hrec]; exact hne)
      rw [hrec] at this ⊢
      exact this
    rintro e W2 ⟨⟨v, rfl⟩, (⟨hi, hk⟩ | ⟨i, hlt, c, hi, hk⟩)⟩
    · exact ⟨none, _, shut (by simp) hk, hdone _ _ (Nat.le_refl _) (hI.putObj _ hi (by omega) hk.1 rfl) (hBkp hk).2⟩
    · exact ⟨some c, _, shut (by simp) hk, hstop _ c i _ (Nat.le_refl _) hlt ((hIx c).putObj _ hi (by omega) hk.1 rfl) (hBkp hk).2⟩
end
end Go.Proofs.YtdjamkinijhjoaaDoor
namespace Go.Proofs.YtdjamkinijhjoaaDoor
open Go.RowKit Go.Shelf
attribute [local go_sem] Oper.semAt_some

/-- a frame of a known length, slot by slot -/
theorem frame_list {ts : Array Value} {n : Nat} (h : ts.size = n) : ts = ((List.range n).map fun i => ts.getD i undef).toArray := by
  subst h
  refine Array.ext (by simp) fun i h1 h2 => ?_
  simp [Array.getD, h1]

/-- the places (block, instruction) of nb blocks with ll m instructions each, in the order of the text -/
def posL (ll : Nat → Nat) : Nat → List (Nat × Nat)
  | 0 => []
  | m + 1 => posL ll m ++ (List.range (ll m)).map fun j => (m, j)
theorem posL_pre (ll : Nat → Nat) {m : Nat} : ∀ {n}, m ≤ n → ∃ l, posL ll n = posL ll m ++ l
  | 0, h => by
    obtain rfl : m = 0 := by omega
    exact ⟨[], by simp⟩
  | n + 1, h => by
    rcases Nat.lt_or_ge m (n + 1) with g | g
    · obtain ⟨l, e⟩ := posL_pre ll (m := m) (n := n) (by omega)
      exact ⟨l ++ (List.range (ll n)).map fun j => (n, j), by rw [posL, e, List.append_assoc]⟩
    · obtain rfl : m = n + 1 := by omega
      exact ⟨[], by simp⟩
theorem posL_succ (ll : Nat → Nat) (m : Nat) : (posL ll (m + 1)).length = (posL ll m).length + ll m := by simp [posL]
theorem posL_at {ll : Nat → Nat} {m n j : Nat} (hm : m < n) (hj : j < ll m) : (posL ll n)[(posL ll m).length + j]? = some (m, j) := by
  obtain ⟨l, e⟩ := posL_pre ll (m := m + 1) (n := n) (by omega)
  rw [e, List.getElem?_append_left (by rw [posL_succ]; omega), posL, List.getElem?_append_right (by omega)]
  simp [hj]
theorem posL_lt {ll : Nat → Nat} {m n j : Nat} (hm : m < n) (hj : j < ll m) : (posL ll m).length + j < (posL ll n).length := by
  have := posL_at hm hj
  exact (List.getElem?_eq_some_iff.1 this).1
theorem posL_mem {ll : Nat → Nat} : ∀ {n : Nat} {x : Nat × Nat}, x ∈ posL ll n → x.1 < n ∧ x.2 < ll x.1
  | 0, _, h => by simp [posL] at h
  | n + 1, x, h => by
    rw [posL, List.mem_append] at h
    rcases h with h | h
    · have := posL_mem h
      exact ⟨by omega, this.2⟩
    · obtain ⟨j, hj, rfl⟩ := List.mem_map.1 h
      exact ⟨by simp, by simpa using hj⟩

/-- what calls.Each reads: its box, the function's blocks, their lists -/
structure EachSh (Bx fb fo : Nat) (q : Option Addr) (nb c : Nat) (lq : Nat → Option Addr) (ll lc : Nat → Nat) (W : World) : Prop where
  box : W.cell? ⟨Bx, 0, none⟩ = some (.pointer (some ⟨fb, fo, none⟩))
  fn : W.cell? ⟨fb, fo + 3, none⟩ = some (.slice q nb c)
  blk : ∀ m, m < nb → ∃ bb bo, q = some ⟨bb, bo, none⟩ ∧ W.cell? ⟨bb, bo + m * 6 + 1, none⟩ = some (.slice (lq m) (ll m) (lc m))
/-- the address of instruction i, counted through all blocks -/
def eachPt (lp : Nat → Nat × Nat) (ll : Nat → Nat) (nb i : Nat) : Value := match (posL ll nb)[i]? with
  | some (m, j) => .pointer (some ⟨(lp m).1, (lp m).2 + j * 8, none⟩)
  | none => undef
def eachEl (lp : Nat → Nat × Nat) (ll : Nat → Nat) (nb i : Nat) : Array Value := #[eachPt lp ll nb i]
theorem posL_of_lt {ll : Nat → Nat} {n i : Nat} (h : i < (posL ll n).length) : ∃ m j, m < n ∧ j < ll m ∧ i = (posL ll m).length + j := by
  induction n with
  | zero => simp [posL] at h
  | succ n ih =>
    rw [posL_succ] at h
    rcases Nat.lt_or_ge i (posL ll n).length with g | g
    · obtain ⟨m, j, h1, h2, h3⟩ := ih g
      exact ⟨m, j, by omega, h2, h3⟩
    · exact ⟨n, i - (posL ll n).length, by omega, by omega, by omega⟩
theorem eachPt_at {lp : Nat → Nat × Nat} {ll : Nat → Nat} {nb m j : Nat} (hm : m < nb) (hj : j < ll m) : eachPt lp ll nb ((posL ll m).length + j) = .pointer (some ⟨(lp m).1, (lp m).2 + j * 8, none⟩) := by
  unfold eachPt
  rw [posL_at hm hj]
theorem cell_noCells {W : World} {l b o : Nat} {x : Obj} {v : Value} (h : W.heap[l]? = some x) (hx : x.isCells = false) (hc : W.cell? ⟨b, o, none⟩ = some v) : b ≠ l := by
  rintro rfl
  unfold World.cell? at hc
  rw [h] at hc
  cases x <;> simp [Obj.isCells] at hx hc
theorem EachSh.other {Bx fb fo : Nat} {q : Option Addr} {nb c : Nat} {lq : Nat → Option Addr} {ll lc : Nat → Nat} {W W' : World} (h : EachSh Bx fb fo q nb c lq ll lc W) (hk : ∀ b o v, W.cell? ⟨b, o, none⟩ = some v → (b = Bx ∨ b = fb ∨ ∃ o, q = some ⟨b, o, none⟩) → W'.cell? ⟨b, o, none⟩ = some v) : EachSh Bx fb fo q nb c lq ll lc W' :=
  ⟨hk _ _ _ h.box (.inl rfl), hk _ _ _ h.fn (.inr (.inl rfl)), fun m hm => by
    obtain ⟨bb, bo, hq, hc⟩ := h.blk m hm
    exact ⟨bb, bo, hq, hk _ _ _ hc (.inr (.inr ⟨bo, hq⟩))⟩⟩
theorem EachSh.putObj {Bx fb fo : Nat} {q : Option Addr} {nb c : Nat} {lq : Nat → Option Addr} {ll lc : Nat → Nat} {W : World} (h : EachSh Bx fb fo q nb c lq ll lc W) {l : Nat} {o : Obj} (o' : Obj) (hl : W.heap[l]? = some o) (ho : o.isCells = false) : EachSh Bx fb fo q nb c lq ll lc (W.putObj l o') :=
  h.other fun b o v hc _ => by
    have hne : b ≠ l := cell_noCells hl ho hc
    exact (World.cell?_of_block (a := ⟨b, o, none⟩) (World.putObj_heap_other (by omega))).trans hc
theorem EachSh.below {Bx fb fo : Nat} {q : Option Addr} {nb c : Nat} {lq : Nat → Option Addr} {ll lc : Nat → Nat} {W W' : World} (h : EachSh Bx fb fo q nb c lq ll lc W) (hb : Below W.heap.size W W') : EachSh Bx fb fo q nb c lq ll lc W' :=
  h.other fun b o _ hc _ => (hb.cell (p := ⟨b, o, none⟩) (lt_of_cell hc)).trans hc

/-! what a loop's invariant says abides the law's own book-keeping -/
theorem own_slo {α : Type} {e : TypeId} {size : Nat} {R : ElemO α} (hR : LocO R) {v : Value} {S : Blks} {B : Nat} (hS : ∀ b, S b → b < B) (g : Nat → List α) : OwnFrom B (fun i W => SlO e size R W v (g i) S) := fun s W W' row hs hg hr =>
  SlO.loc hR hs (fun k hk => hg.block k (hs.inb k hk) (fun e => by have := (hr k e.symm).1; have := hS k hk; omega)) hg.size
theorem own_sh {Bx fb fo : Nat} {q : Option Addr} {nb c : Nat} {lq : Nat → Option Addr} {ll lc : Nat → Nat} {B : Nat} : OwnFrom B (fun (_ : Nat) W => EachSh Bx fb fo q nb c lq ll lc W) := fun s W W' row hs hg hr =>
  hs.other fun b o v hc _ => (World.cell?_of_block (a := ⟨b, o, none⟩) (hg.block b (lt_of_cell hc) (fun e => by
    obtain ⟨_, x, hx, hn⟩ := hr b e.symm
    exact cell_noCells hx hn hc rfl))).trans hc
theorem own_kept {S : Blks} {w0 : World} {B : Nat} (hB : w0.heap.size ≤ B) : OwnFrom B (fun (_ : Nat) W => Kept S w0 W) := fun s W W' row hs hg hr =>
  ⟨hg.os.trans hs.os, hg.tape.trans hs.tape, hg.output.trans hs.output, Nat.le_trans hs.size hg.size, fun k hk hn => (hg.block k (Nat.lt_of_lt_of_le hk hs.size) (fun e => by have := (hr k e.symm).1; omega)).trans (hs.block k hk hn)⟩

set_option maxRecDepth 100000 in
set_option maxHeartbeats 2000000 in
theorem each_at (F : Fence) (n : Nat) (hF : F.fn 67) (hro : F.round = none) (hn : 1 ≤ n) (Bx fb fo c nb : Nat) (q : Option Addr) (lq : Nat → Option Addr) (lp : Nat → Nat × Nat) (ll lc : Nat → Nat) (w : World) (hnb : nb * 96 ≤ 140737488351232) (hll : ∀ m, m < nb → ll m * 80 ≤ 140737488351232)
    (hlq : ∀ m, m < nb → 0 < ll m → lq m = some ⟨(lp m).1, (lp m).2, none⟩) (hsh : EachSh Bx fb fo q nb c lq ll lc w) :
    SeqAt F n Tryd.prog 67 #[.pointer (some ⟨Bx, 0, none⟩)] (eachEl lp ll nb) (posL ll nb).length (fun W W' => EachSh Bx fb fo q nb c lq ll lc W → EachSh Bx fb fo q nb c lq ll lc W') w := by
  intro l J Jx W hW _ _ hY h0
  have HS := hidI (hsh.other (W' := W) fun b o v hc _ => (hW.cell (p := ⟨b, o, none⟩) (lt_of_cell hc)).trans hc)
  have HY := hidI hY
  have HLQ := hidI hlq
  have HLL := hidI hll
  clear hsh hY hlq hW hll
  refine callsIn_of_wp Tryd.func67 rfl hF ?_ hro
  simp only [Tryd.ntmps67, List.size_toArray, List.length_cons, List.length_nil, Nat.reduceAdd, Nat.reduceSub, Array.replicate_succ, Array.replicate_zero, List.push_toArray, List.append_toArray, List.nil_append, List.cons_append]
  have cb := HS.out.box
  have f0 := HS.out.fn
  gi_wp2
  gi_loopw [10] (fun i wr => ∃ m : Nat, m ≤ nb ∧ i = .int .i64 m ∧ J (posL ll m).length wr ∧ EachSh Bx fb fo q nb c lq ll lc wr) (fun i _ => nb - (intOf i).toNat)
  case atStart => exact ⟨0, by omega, rfl, h0, HS.out⟩
  case round =>
    obtain ⟨m, hm, rfl, hJ, hK⟩ := hrel
    obtain ⟨wo, hwo⟩ : ∃ wo : World, wo = wr := ⟨_, rfl⟩
    have cb := hK.box
    have c0 := hK.fn
    have HK := hidI hK
    clear hK
    by_cases hlt : m < nb
    · obtain ⟨b3, o3, rfl, e1⟩ := HK.out.blk m hlt
      have hl2 := HLL.out m hlt
      gi_wp2
      subst hwo
      gi_loopw [22] (fun i wr => ∃ j : Nat, j ≤ ll m ∧ i = .int .i64 j ∧ J ((posL ll m).length + j) wr ∧ EachSh Bx fb fo (some ⟨b3, o3, none⟩) nb c lq ll lc wr) (fun i _ => ll m - (intOf i).toNat)
      case atStart => exact ⟨0, by omega, rfl, hJ, HK.out⟩
      case round =>
        clear cb c0 HK e1
        obtain ⟨j, hj, rfl, hJ, hK⟩ := hrel
        have cb := hK.box
        have c0 := hK.fn
        obtain ⟨_, _, he, e1⟩ := hK.blk m hlt
        cases he
        have HK := hidI hK
        clear hK
        by_cases hjl : j < ll m
        · have hlq := HLQ.out m hlt (by omega)
          rw [hlq] at e1
          obtain ⟨fn, tmps, assign, body, hy, hR⟩ := HY.out _ wr (posL_lt hlt hjl) hJ
          have he : eachEl lp ll nb ((posL ll m).length + j) = #[.pointer (some ⟨(lp m).1, (lp m).2 + j * 8, none⟩)] := by unfold eachEl; rw [eachPt_at hlt hjl]
          rw [he] at hy
          have HR := hidI hR
          clear hR he hlq
          gi_wp2
          refine HR.out.mono ?_
          rintro e W3 (⟨rfl, hJ3, hk3⟩ | ⟨rfl, hJx3⟩)
          · have HK3 := hidI (hk3 HK.out)
            clear hk3
            gi_wp2
            go_roundw
            case rel => exact ⟨j + 1, by omega, by go_num, hJ3, HK3.out⟩
            case measure => simp [intOf]; omega
          · gi_wp2
            refine bodyPost_ret (results_none rfl _ _ _) rfl ?_
            exact ⟨⟨_, rfl⟩, .inr ⟨_, posL_lt hlt hjl, hJx3⟩⟩
        · obtain rfl : j = ll m := by omega
          gi_wp2
          go_roundw
          case rel => exact ⟨m + 1, by omega, by go_num, by rw [posL_succ]; exact hJ, HK.out⟩
          case measure => simp [intOf]; omega
    · obtain rfl : m = nb := by omega
      gi_wp2
      go_end0
      exact ⟨⟨_, rfl⟩, .inl hJ⟩
end Go.Proofs.YtdjamkinijhjoaaDoor
