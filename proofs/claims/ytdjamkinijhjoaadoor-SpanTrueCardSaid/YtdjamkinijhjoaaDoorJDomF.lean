/-
  A loop over an iterator whose elements come in a known order: the body's walk is told the number of its round.
  The contract of calls.Each where rounds may write the instructions: what the iterator itself reads stays.
  The contract of slices.Backward of numbers: the elements from the last one to the first, where rounds may write.
  Plain: depth first, blocks as they are left (graph.Post), and its state in a world.
-/
import Derived.RangeFuncWrites
import Derived.WalkKit
import Derived.WalkSpells
import Derived.WalkLawsBesides
import Derived.Test.YtdjamkinijhjoaaDoorJDomA
import Derived.Test.YtdjamkinijhjoaaDoorJSsaA
namespace Go.Proofs.YtdjamkinijhjoaaDoor
open Go.RowKit Go.Shelf

def SeqAt (F : Fence) (n : Nat) (P : Program) (g : Nat) (lb : Array Value) (el : Nat → Array Value) (N : Nat) (Kp : World → World → Prop) (w : World) : Prop :=
 ∀ (l : Nat) (J Jx : Nat → World → Prop) (W : World), Below w.heap.size w W → AbidesFrom W.heap.size J → AbidesFrom W.heap.size Jx →
  (∀ i W1, i < N → J i W1 → YieldAt F (n - 1) P l (el i) W1 fun e W' => (e = .returned (.bool true) ∧ J (i + 1) W' ∧ Kp W1 W') ∨ (e = .returned (.bool false) ∧ Jx i W')) → J 0 W →
  CallsIn F n P g (#[.func (.yield l) #[] #[]] ++ lb) W fun e W' => (∃ v, e = .returned v) ∧ (J N W' ∨ ∃ i, i < N ∧ Jx i W')
def roundPost (B : Nat) (Kp : World → World → Prop) (I : Nat → World → Prop) (Ix : Code → Nat → World → Prop) (i : Nat) (W : World) (e : Exit) (W' : World) : Prop :=
 KeepsFrom B W W' ∧ match e with
  | .normal => Kp W W' ∧ I (i + 1) W'
  | .ret => Ix .ret i W'
  | .exit id => Ix (.exit id) i W'
  | .goto t => Ix (.goto t) i W'
  | _ => False
section
variable {F : Fence} {n : Nat} {P : Program} {g : Operand} {ps : Array Tmp} {assign body : Code} {Q : Exit → Act → World → Prop} {a : Act} {w : World} {gf : Nat} {lb : Array Value} {el : Nat → Array Value} {N : Nat} {Kp : World → World → Prop} {w0 : World}
theorem wpIn_rangeAt (hro : F.round = none) (h1 : 1 ≤ n) (hg : a.eval g = .func (.func gf) #[] lb) (hFg : F.fn gf) (eg : ∀ args w, (callFunc gf args).run P w = .ok (.enter gf args) w) (hseq : SeqAt F (n - 1) P gf lb el N Kp w0)
  (hKt : ∀ {A B C : World}, Kp A B → Kp B C → Kp A C) (hKb : ∀ (W : World) (l : Nat) (o o' : Obj), w.heap.size ≤ l → W.heap[l]? = some o → o.isCells = false → o.isWalk = false → Kp W (W.putObj l o')) (hb0 : Below w0.heap.size w0 w) (hps : ∀ i, i < N → (el i).size = ps.size)
  (I : Nat → World → Prop) (Ix : Code → Nat → World → Prop) (hI : OwnFrom w.heap.size I) (hIx : ∀ c, OwnFrom w.heap.size (Ix c)) (h0 : I 0 w) (a₁ : Nat → Act)
  (hassign : ∀ (l i : Nat) (W : World) (K : Act → World → Prop), i < N → K (a₁ i) W → assign.wpIn (F.inRound l) (n - 1 - 1) P (Exit.then K (fun _ _ _ => False)) { tmps := (ps.zip (el i)).foldl (fun t (p, v) => t.setIfInBounds p v) a.tmps, defers := [] } W)
  (hbody : ∀ (l i : Nat) (W : World), w.heap.size ≤ l → i < N → I i W → body.wpIn (F.inRound l) (n - 1 - 1) P (fun e _ W' => roundPost w.heap.size Kp I Ix i W e W') (a₁ i) W)
  (hdone : ∀ (D : Nat) (W : World), w.heap.size ≤ D → I N W → W.heap[D]? = some (.deferred (some [])) → Q .normal { a with defers := { target := .collected D, args := #[] } :: a.defers } W)
  (hstop : ∀ (D : Nat) (c : Code) (i : Nat) (W : World), w.heap.size ≤ D → i < N → Ix c i W → W.heap[D]? = some (.deferred (some [])) → c.wpIn F n P Q { a with defers := { target := .collected D, args := #[] } :: a.defers } W) :
  (Code.rangeFunc g ps assign body).wpIn F n P Q a w := by
 refine wpIn_rangeFunc fun fn hfn => ?_
 rw [hro]
 -- the record of the loop and the block for what rounds defer: the blocks L and D
 obtain ⟨rec, hrec⟩ : ∃ rec : LoopState → Option Code → Loop, rec = fun st pe => { state := st, pending := pe, fn, tmps := a.tmps, params := ps, assign, body, defers := w.heap.size } := ⟨_, rfl⟩
 have hst : ∀ st pe, { rec .ready none with state := st, pending := pe } = rec st pe := fun st pe => by rw [hrec]
 let Bk : LoopState → Option Code → World → Prop := fun st pe W => W.heap[w.heap.size + 1]? = some (.loop (rec st pe)) ∧ W.heap[w.heap.size]? = some (.deferred (some []))
 have hBk0 : Bk .ready none ((w.alloc (.deferred (some []))).alloc (.loop (rec .ready none))) :=
  ⟨heap_at (by simp), heap_step (heap_here w _)⟩
 have hBkg : ∀ {st pe A B row}, Bk st pe A → A.grownBy B row → (∀ r, row = some r → ∃ o : Obj, A.heap[r]? = some o ∧ o.isWalk = true) → Bk st pe B := fun h hg hr =>
  ⟨(grownBy_keeps hg hr h.1 rfl).trans h.1, (grownBy_keeps hg hr h.2 rfl).trans h.2⟩
 have hBkp : ∀ {st pe st' pe' A}, Bk st pe A → Bk st' pe' (A.putObj (w.heap.size + 1) (.loop (rec st' pe'))) := fun {st pe st' pe' A} h =>
  ⟨World.putObj_heap_same (ltHeap h.1), (World.putObj_heap_other (by omega)).trans h.2⟩
 obtain ⟨W1, hW1⟩ : ∃ W1, W1 = (w.alloc (.deferred (some []))).alloc (.loop (rec .ready none)) := ⟨_, rfl⟩
 rw [← hW1] at hBk0
 have hz1 : W1.heap.size = w.heap.size + 1 + 1 := by rw [hW1]; simp
 have hent : (Instr.enterLoop fn a.tmps ps assign body none).run P w = .ok (w.heap.size + 1, [{ target := .collected w.heap.size, args := #[] }]) W1 := by
  rw [hW1, hrec]; exact run_enterLoop_outer _ _ _ _ _
 refine ⟨w.heap.size + 1, [{ target := .collected w.heap.size, args := #[] }], W1, { target := .fn (.func gf) lb, args := #[.func (.yield (w.heap.size + 1)) #[] #[]] }, W1, gf,
  #[.func (.yield (w.heap.size + 1)) #[] #[]] ++ lb, W1, hent, ?_, fun f' hf' => by simp [Target.leads] at hf'; subst hf'; exact hFg, ?_, fun _ => h1, ?_⟩
 ·simp only [resolve, hg]
  simp [go_sem]
 ·simp [invoke, go_sem, eg]
 have hwalk : ∀ {A : World} {row : Option Nat}, (∀ r, row = some r → W1.heap.size ≤ r ∧ ∃ o : Obj, A.heap[r]? = some o ∧ o.isWalk = true) → ∀ r, row = some r → w.heap.size ≤ r ∧ ∃ o : Obj, A.heap[r]? = some o ∧ o.isCells = false := fun hr r e => by
  obtain ⟨hB, o, ho, hw⟩ := hr r e
  exact ⟨by omega, o, ho, Obj.not_cells_of_walk hw⟩
 refine (hseq (w.heap.size + 1) (fun i W => I i W ∧ Bk .ready none W) (fun i W => ∃ c, Ix c i W ∧ Bk .done (some c) W) _
  (by rw [hW1]; exact hb0.trans ((((Below.refl _ w).alloc (Nat.le_refl _) _).alloc (by simp) _).mono hb0.size))
  (fun s A B row hs hg' hr => ⟨hI s A B row hs.1 hg' (hwalk hr), hBkg hs.2 hg' fun r e => (hr r e).2⟩)
  (fun s A B row ⟨c, hc, hk⟩ hg' hr => ⟨c, hIx c s A B row hc hg' (hwalk hr), hBkg hk hg' fun r e => (hr r e).2⟩)
  (fun i W hlt ⟨hi, hk⟩ => ?_) ⟨by rw [hW1]; exact hI.alloc _ (hI.alloc _ h0), hBk0⟩).mono ?_
 ·have hy := run_yield (P := P) (args := el i) hk.1 (by rw [hrec]; exact hps i hlt)
  rw [hrec] at hy
  refine ⟨fn, _, assign, body, hy, roundIn_of_wpIn hfn (hassign _ i W _ hlt ⟨_, run_beginRound hk.1 (by rw [hrec]), ?_⟩)⟩
  rw [show ({ rec .ready none with state := .busy } : Loop) = rec .busy none by rw [hrec]]
  have hkb := hBkp (st' := .busy) (pe' := none) hk
  refine wpIn_mono (hbody _ i _ (by omega) hlt (hI.putObj _ hi (by omega) hk.1 rfl)) fun e a3 W3 ⟨hk3, hp⟩ => ?_
  have hb3 : Bk .busy none W3 := ⟨hk3.same _ _ (by omega) hkb.1 rfl, hk3.same _ _ (Nat.le_refl _) hkb.2 rfl⟩
  have fin : ∀ jump : Option Code, (Instr.endRound (w.heap.size + 1) jump).run P W3 = .ok (.bool jump.isNone) (W3.putObj (w.heap.size + 1) (.loop (rec (if jump.isNone then .ready else .done) jump))) := fun jump => by
   have := run_endRound (P := P) jump hb3.1
   rw [hrec] at this ⊢
   exact this
  have leave : ∀ c : Code, Ix c i W3 → _ := fun c hc => (⟨.bool false, W3.putObj (w.heap.size + 1) (.loop (rec .done (some c))), fin (some c), .inr ⟨rfl, c, (hIx c).putObj _ hc (by omega) hb3.1 rfl, hBkp hb3⟩⟩ : ∃ v W4, (Instr.endRound (w.heap.size + 1) (some c)).run P W3 = .ok v W4 ∧ ((Ending.returned v = .returned (.bool true) ∧ (I (i + 1) W4 ∧ Bk .ready none W4) ∧ Kp W W4) ∨ (Ending.returned v = .returned (.bool false) ∧ ∃ c, Ix c i W4 ∧ Bk .done (some c) W4)))
  cases e with
  | normal =>
   exact ⟨_, _, fin none, .inl ⟨rfl, ⟨hI.putObj _ hp.2 (by omega) hb3.1 rfl, hBkp hb3⟩, hKt (hKt (hKb _ _ _ _ (by omega) hk.1 rfl rfl) hp.1) (hKb _ _ _ _ (by omega) hb3.1 rfl rfl)⟩⟩
  | ret => exact leave _ hp
  | exit id => exact leave _ hp
  | goto t => exact leave _ hp
  | panic ch => exact hp.elim
  | outgrown => exact hp.elim
 ·have shut : ∀ {st pe W2}, st ≠ .busy → Bk st pe W2 → (Instr.endLoop (w.heap.size + 1)).run P W2 = .ok pe (W2.putObj (w.heap.size + 1) (.loop (rec .exhausted pe))) := fun {st pe W2} hne hk => by
   have := run_endLoop (P := P) hk.1 (by rw [hrec]; exact hne)
   rw [hrec] at this ⊢
   exact this
  rintro e W2 ⟨⟨v, rfl⟩, (⟨hi, hk⟩ | ⟨i, hlt, c, hi, hk⟩)⟩
  ·exact ⟨none, _, shut (by simp) hk, hdone _ _ (Nat.le_refl _) (hI.putObj _ hi (by omega) hk.1 rfl) (hBkp hk).2⟩
  ·exact ⟨some c, _, shut (by simp) hk, hstop _ c i _ (Nat.le_refl _) hlt ((hIx c).putObj _ hi (by omega) hk.1 rfl) (hBkp hk).2⟩
end
end Go.Proofs.YtdjamkinijhjoaaDoor
namespace Go.Proofs.YtdjamkinijhjoaaDoor
open Go.RowKit Go.Shelf
attribute [local go_sem] Oper.semAt_some

theorem frame_list {ts : Array Value} {n : Nat} (h : ts.size = n) : ts = ((List.range n).map fun i => ts.getD i undef).toArray := by
 subst h
 refine Array.ext (by simp) fun i h1 h2 => ?_
 simp [Array.getD, h1]

theorem cell_noCells {W : World} {l b o : Nat} {x : Obj} {v : Value} (h : W.heap[l]? = some x) (hx : x.isCells = false) (hc : W.cell? ⟨b, o, none⟩ = some v) : b ≠ l := by
 rintro rfl
 unfold World.cell? at hc
 rw [h] at hc
 cases x <;> simp [Obj.isCells] at hx hc
end Go.Proofs.YtdjamkinijhjoaaDoor
namespace Go.Proofs.YtdjamkinijhjoaaDoor
open Go.RowKit Go.Shelf
attribute [local go_sem] Oper.semAt_some

structure BackSh (X : Nat) (p : Option Addr) (c : Nat) (xs : List Int) (W : World) : Prop where
 box : W.cell? ⟨X, 0, none⟩ = some (.slice p xs.length c)
 el : ∀ i (h : i < xs.length), ∃ b o, p = some ⟨b, o, none⟩ ∧ W.cell? ⟨b, o + i, none⟩ = some (.int .i64 xs[i])
theorem BackSh.other {X c : Nat} {p : Option Addr} {xs : List Int} {W W' : World} (h : BackSh X p c xs W) (hk : ∀ b o v, W.cell? ⟨b, o, none⟩ = some v → (b = X ∨ ∃ o, p = some ⟨b, o, none⟩) → W'.cell? ⟨b, o, none⟩ = some v) : BackSh X p c xs W' :=
 ⟨hk _ _ _ h.box (.inl rfl), fun i hi => by
  obtain ⟨b, o, hp, hc⟩ := h.el i hi
  exact ⟨b, o, hp, hk _ _ _ hc (.inr ⟨o, hp⟩)⟩⟩
theorem BackSh.putObj {X c : Nat} {p : Option Addr} {xs : List Int} {W : World} (h : BackSh X p c xs W) {l : Nat} {o : Obj} (o' : Obj) (hl : W.heap[l]? = some o) (ho : o.isCells = false) : BackSh X p c xs (W.putObj l o') :=
 h.other fun b o v hc _ => by
  have hne : b ≠ l := cell_noCells hl ho hc
  exact (World.cell?_of_block (a := ⟨b, o, none⟩) (World.putObj_heap_other (by omega))).trans hc
theorem own_back {X c : Nat} {p : Option Addr} {xs : List Int} {B : Nat} : OwnFrom B (fun (_ : Nat) W => BackSh X p c xs W) := fun s W W' row hs hg hr =>
 hs.other fun b o v hc _ => (World.cell?_of_block (a := ⟨b, o, none⟩) (hg.block b (lt_of_cell hc) (fun e => by
  obtain ⟨_, x, hx, hn⟩ := hr b e.symm
  exact cell_noCells hx hn hc rfl))).trans hc

def backEl (xs : List Int) (i : Nat) : Array Value := #[.int .i64 ((xs.length - 1 - i : Nat) : Int), .int .i64 (xs.getD (xs.length - 1 - i) 0)]

set_option maxRecDepth 100000 in
set_option maxHeartbeats 2000000 in
theorem backward_any (p : Option Addr) (n c : Nat) (w : World) :
  Calls Tryd.prog 106 #[.slice p n c] w fun e w' => e = .returned (.func (.func 133) #[] #[.pointer (some ⟨w.heap.size, 0, none⟩)]) ∧ w' = w.alloc (.cells #[.slice p n c] 46) := by
 go_enter Tryd.func106, Tryd.ntmps106
 go_wp2
 go_ret
 exact ⟨rfl, rfl⟩

set_option maxRecDepth 100000 in
set_option maxHeartbeats 2000000 in
theorem back_at (F : Fence) (n : Nat) (hF : F.fn 133) (hro : F.round = none) (hn : 1 ≤ n) (X c : Nat) (p : Option Addr) (xs : List Int) (w : World) (hl : xs.length ≤ 140737488355328) (hsh : BackSh X p c xs w) :
  SeqAt F n Tryd.prog 133 #[.pointer (some ⟨X, 0, none⟩)] (backEl xs) xs.length (fun W W' => BackSh X p c xs W → BackSh X p c xs W') w := by
 intro l J Jx W hW _ _ hY h0
 have HS := hidI (hsh.other (W' := W) fun b o v hc _ => (hW.cell (p := ⟨b, o, none⟩) (lt_of_cell hc)).trans hc)
 have HY := hidI hY
 clear hsh hY hW
 refine callsIn_of_wp Tryd.func133 rfl hF ?_ hro
 simp only [Tryd.ntmps133, List.size_toArray, List.length_cons, List.length_nil, Nat.reduceAdd, Nat.reduceSub, Array.replicate_succ, Array.replicate_zero, List.push_toArray, List.append_toArray, List.nil_append, List.cons_append]
 have cb := HS.out.box
 gi_wp2
 gi_loopw [3] (fun i wr => ∃ m : Nat, m ≤ xs.length ∧ i = .int .i64 ((xs.length : Int) - 1 - m) ∧ J m wr ∧ BackSh X p c xs wr) (fun i _ => (intOf i + 1).toNat)
 case atStart => exact ⟨0, by omega, by simp, h0, HS.out⟩
 case round =>
  clear cb
  obtain ⟨m, hm, rfl, hJ, hK⟩ := hrel
  have cb := hK.box
  have HK := hidI hK
  clear hK
  by_cases hlt : m < xs.length
  ·have hk : xs.length - 1 - m < xs.length := by omega
   obtain ⟨b, o, rfl, e1⟩ := HK.out.el _ hk
   have hj : (xs.length : Int) - 1 - m = ((xs.length - 1 - m : Nat) : Int) := by omega
   obtain ⟨fn, tmps, assign, body, hy, hR⟩ := HY.out _ wr hlt hJ
   have he : backEl xs m = #[.int .i64 ((xs.length - 1 - m : Nat) : Int), .int .i64 (xs[xs.length - 1 - m])] := by
    unfold backEl
    rw [List.getD_eq_getElem?_getD, List.getElem?_eq_getElem hk]
    rfl
   rw [he] at hy
   rw [hj]
   generalize hkk : xs.length - 1 - m = k at *
   have HKK := hidI hkk
   have HR := hidI hR
   clear hR he hj hkk
   gi_wp2
   refine HR.out.mono ?_
   rintro e W3 (⟨rfl, hJ3, hk3⟩ | ⟨rfl, hJx3⟩)
   ·have HK3 := hidI (hk3 HK.out)
    clear hk3
    gi_wp2
    go_roundw
    case rel => exact ⟨m + 1, by omega, by have := HKK.out; congr 1; omega, hJ3, HK3.out⟩
    case measure => simp [intOf]
   ·gi_wp2
    refine bodyPost_ret (results_none rfl _ _ _) rfl ?_
    exact ⟨⟨_, rfl⟩, .inr ⟨_, hlt, hJx3⟩⟩
  ·obtain rfl : m = xs.length := by omega
   gi_wp2
   go_end0
   exact ⟨⟨_, rfl⟩, .inl hJ⟩
end Go.Proofs.YtdjamkinijhjoaaDoor
namespace Go.Proofs.YtdjamkinijhjoaaDoor
open Go.RowKit Go.Shelf

abbrev PostS := (Nat → Bool) × List Int
def visStep (rec : Nat → PostS → PostS) (s : PostS) (t : Int) : PostS := if s.1 t.toNat then s else rec t.toNat s
def visTo (rec : Nat → PostS → PostS) (xs : List Int) (s : PostS) : Nat → PostS
 | 0 => s
 | i + 1 => visStep rec (visTo rec xs s i) (xs.getD (xs.length - 1 - i) 0)
def markS (b : Nat) (s : PostS) : PostS := (fun j => if j = b then true else s.1 j, s.2)
def visF (tos : Nat → List Int) : Nat → Nat → PostS → PostS
 | 0, _, s => s
 | c + 1, b, s => ((visTo (visF tos c) (tos b) (markS b s) (tos b).length).1, (visTo (visF tos c) (tos b) (markS b s) (tos b).length).2 ++ [(b : Int)])

theorem markS_up {b : Nat} {s : PostS} {j : Nat} (h : s.1 j = true) : (markS b s).1 j = true := by
 show (if j = b then true else s.1 j) = true
 split
 ·rfl
 ·exact h
theorem markS_left {n b : Nat} {s : PostS} (hb : b < n) (h : s.1 b = false) : leftN n (markS b s).1 < leftN n s.1 :=
 leftN_less (fun _ => markS_up) hb h (by show (if b = b then true else _) = true; simp)

structure VisOk (n : Nat) (s s' : PostS) : Prop where
 up : ∀ j, s.1 j = true → s'.1 j = true
 many : s'.2.length + leftN n s'.1 ≤ s.2.length + leftN n s.1
theorem VisOk.refl (n : Nat) (s : PostS) : VisOk n s s := ⟨fun _ h => h, Nat.le_refl _⟩
theorem VisOk.trans {n : Nat} {a b c : PostS} (h : VisOk n a b) (k : VisOk n b c) : VisOk n a c := ⟨fun j e => k.up j (h.up j e), Nat.le_trans k.many h.many⟩

theorem visTo_ok {n : Nat} {rec : Nat → PostS → PostS} {xs : List Int} (hx : ∀ x ∈ xs, 0 ≤ x ∧ x < (n : Int)) {s : PostS} (h : ∀ b s', b < n → s'.1 b = false → VisOk n s s' → VisOk n s' (rec b s')) : ∀ i, i ≤ xs.length → VisOk n s (visTo rec xs s i)
 | 0, _ => VisOk.refl _ _
 | i + 1, hi => by
  have ih := visTo_ok hx h i (by omega)
  show VisOk n s (visStep rec (visTo rec xs s i) (xs.getD (xs.length - 1 - i) 0))
  unfold visStep
  have hk : xs.length - 1 - i < xs.length := by omega
  have hm := hx _ (List.getElem_mem hk)
  rw [List.getD_eq_getElem?_getD, List.getElem?_eq_getElem hk]
  cases e : (visTo rec xs s i).1 (xs[xs.length - 1 - i]).toNat
  ·rw [show ((some xs[xs.length - 1 - i]).getD 0) = xs[xs.length - 1 - i] from rfl, e]
   exact ih.trans (h _ _ (by omega) e ih)
  ·rw [show ((some xs[xs.length - 1 - i]).getD 0) = xs[xs.length - 1 - i] from rfl, e]
   exact ih
theorem visF_ok {n : Nat} {tos : Nat → List Int} (hT : ∀ b, b < n → ∀ x ∈ tos b, 0 ≤ x ∧ x < (n : Int)) : ∀ (c b : Nat) (s : PostS), b < n → s.1 b = false → VisOk n s (visF tos c b s)
 | 0, _, s, _, _ => VisOk.refl n s
 | c + 1, b, s, hb, h => by
  have h1 := markS_left (n := n) hb h
  have h2 := visTo_ok (n := n) (rec := visF tos c) (xs := tos b) (hT b hb) (s := markS b s) (fun b' s' hb' h' _ => visF_ok hT c b' s' hb' h') (tos b).length (Nat.le_refl _)
  refine ⟨fun j e => h2.up j (markS_up e), ?_⟩
  have h3 := h2.many
  have h4 : (markS b s).2 = s.2 := rfl
  rw [h4] at h3
  show ((visTo (visF tos c) (tos b) (markS b s) (tos b).length).2 ++ [(b : Int)]).length + _ ≤ _
  rw [List.length_append]
  show _ + 1 + leftN n (visTo (visF tos c) (tos b) (markS b s) (tos b).length).1 ≤ _
  omega

structure PostM (W : World) (V L n B : Nat) (tb ti : TypeId) (tl : TypeId) (lv : Value) (s : PostS) : Prop where
 seen : W.rowIs V tb n (fun j => .bool (s.1 j))
 var : W.heap[L]? = some (.cells #[lv] tl (0, 0))
 own : W.ownsRow B ti 1 lv s.2.length (s.2.map (.int .i64))
structure PostI (W0 : World) (lv0 : Value) (V L n B : Nat) (tb ti tl : TypeId) (lv : Value) (s : PostS) (W : World) : Prop where
 st : PostM W V L n B tb ti tl lv s
 kept : Kept (fun k => k = V ∨ k = L ∨ some k = lv0.ownBlock) W0 W
 blk : lv.ownBlock = lv0.ownBlock ∨ ∃ k, lv.ownBlock = some k ∧ W0.heap.size ≤ k

theorem PostI.trans {W0 W1 W2 : World} {lv0 lv1 lv2 : Value} {V L n B : Nat} {tb ti tl : TypeId} {s1 s2 : PostS} (h : PostI W0 lv0 V L n B tb ti tl lv1 s1 W1) (k : PostI W1 lv1 V L n B tb ti tl lv2 s2 W2) : PostI W0 lv0 V L n B tb ti tl lv2 s2 W2 where
 st := k.st
 kept := h.kept.trans k.kept fun i hi hS => by
  rcases hS with e | e | e
  ·exact .inl e
  ·exact .inr (.inl e)
  ·rcases h.blk with g | ⟨q, g, hq⟩
   ·exact .inr (.inr (e.trans g))
   ·rw [g] at e; injection e with e; omega
 blk := by
  rcases k.blk with g | ⟨q, g, hq⟩
  ·rcases h.blk with g2 | ⟨q, g2, hq⟩
   ·exact .inl (g.trans g2)
   ·exact .inr ⟨q, g.trans g2, hq⟩
  ·exact .inr ⟨q, g, Nat.le_trans h.kept.size hq⟩
theorem PostI.base {w1 W0 W : World} {lv0 lv : Value} {V L n B : Nat} {tb ti tl : TypeId} {s s0 : PostS} (h : PostI W0 lv0 V L n B tb ti tl lv s W) (h0 : PostM W0 V L n B tb ti tl lv0 s0) (hB : w1.heap.size ≤ B) (hk : Kept (fun k => k = V ∨ k = L) w1 W0) : Kept (fun k => k = V ∨ k = L) w1 W :=
 hk.trans h.kept fun i hi hS => by
  rcases hS with e | e | e
  ·exact .inl e
  ·exact .inr e
  ·have := (h0.own.lt i e.symm).1
   omega
theorem PostM.grown {W W' : World} {V L n B : Nat} {tb ti tl : TypeId} {lv : Value} {s : PostS} {row : Option Nat} (h : PostM W V L n B tb ti tl lv s) (hg : W.grownBy W' row) (hr : ∀ r, row = some r → ∃ o : Obj, W.heap[r]? = some o ∧ o.isCells = false) : PostM W' V L n B tb ti tl lv s where
 seen := h.seen.of_block (hg.block V h.seen.lt (fun e => by
  obtain ⟨o, ho, hc⟩ := hr V e.symm
  obtain ⟨cs, hcs⟩ := h.seen
  rw [hcs.1] at ho
  cases ho; cases hc))
 var := (hg.block L (Array.getElem?_eq_some_iff.1 h.var).1 (fun e => by
  obtain ⟨o, ho, hc⟩ := hr L e.symm
  rw [h.var] at ho
  cases ho; cases hc)).trans h.var
 own := h.own.kept hg (by
  rcases h.own.2 with ⟨hv, _⟩ | ⟨g, cap, cur, hv, _, hh, _⟩
  ·rw [hv]; exact .inl rfl
  ·right
   rw [hv]
   intro e
   obtain ⟨o, ho, hc⟩ := hr g e.symm
   rw [hh] at ho
   cases ho; cases hc)
theorem own_post {W0 : World} {lv0 : Value} {V L n B B' : Nat} {tb ti tl : TypeId} (hB : W0.heap.size ≤ B') (g : Nat → PostS) : OwnFrom B' (fun i W => ∃ lv, PostI W0 lv0 V L n B tb ti tl lv (g i) W) := by
 rintro s W W' row ⟨lv, h⟩ hg hr
 refine ⟨lv, h.st.grown hg (fun r e => (hr r e).2), ?_, h.blk⟩
 exact ⟨hg.os.trans h.kept.os, hg.tape.trans h.kept.tape, hg.output.trans h.kept.output, Nat.le_trans h.kept.size hg.size, fun k hk hn => (hg.block k (Nat.lt_of_lt_of_le hk h.kept.size) (fun e => by have := (hr k e.symm).1; omega)).trans (h.kept.block k hk hn)⟩
theorem PostM.loc {W W' : World} {V L n B : Nat} {tb ti tl : TypeId} {lv : Value} {s : PostS} (h : PostM W V L n B tb ti tl lv s) (hb : Below W.heap.size W W') : PostM W' V L n B tb ti tl lv s :=
 ⟨h.seen.of_block (hb.block V h.seen.lt), (hb.block L (Array.getElem?_eq_some_iff.1 h.var).1).trans h.var, ownsRow_below' h.own hb⟩
theorem PostI.here {W : World} {V L n B : Nat} {tb ti tl : TypeId} {lv : Value} {s : PostS} (h : PostM W V L n B tb ti tl lv s) : PostI W lv V L n B tb ti tl lv s W := ⟨h, Kept.refl _ _, .inl rfl⟩
theorem PostI.below {W0 W W' : World} {lv0 : Value} {V L n B : Nat} {tb ti tl : TypeId} {lv : Value} {s : PostS} (h : PostI W0 lv0 V L n B tb ti tl lv s W) (hb : Below W.heap.size W W') : PostI W0 lv0 V L n B tb ti tl lv s W' :=
 h.trans ⟨h.st.loc hb, Kept.of_below hb, .inl rfl⟩
end Go.Proofs.YtdjamkinijhjoaaDoor
