/-
  The contracts of the reference's spanVal and spanWiden.
  The contract of the reference's spanWiden.
  Plain: the rounds of the intervals of a function: they end, and what they leave.
  A loop over an iterator whose elements come in a known order: the body's walk is told the number of its round.
  The contract of calls.Each where rounds may write the instructions: what the iterator itself reads stays.
  The contract of slices.Backward of numbers: the elements from the last one to the first, where rounds may write.
-/
import Derived.WalkKit
import Derived.WalkSpells
import Derived.WalkLawsBesides
import Derived.Test.YtdjamkinijhjoaaDoorJDatD
import Derived.Test.YtdjamkinijhjoaaDoorJSpnH
import Derived.RangeFuncWrites
import Derived.Test.YtdjamkinijhjoaaDoorJCalG
import Derived.Test.YtdjamkinijhjoaaDoorJDomC
namespace Go.Proofs.YtdjamkinijhjoaaDoor
open Go.RowKit

set_option maxRecDepth 100000 in
set_option maxHeartbeats 1000000 in
theorem rVal_any (O n : Nat) (l : Nat → Spn) (r : Bool) (m : Int) (w : World) (_hn : n ≤ 1000) (hT : w.rowIs O 40 (n * 3) (spF l)) (hv : r = true → 0 ≤ m ∧ m < n) :
    Calls Tryd.prog 27 #[.slice (some ⟨O, 0, none⟩) n n, .agg #[.bool r, .int .i64 m]] w fun e w' => e = .returned (.agg #[.int .i64 (vlS l (r, m)).lo, .int .i64 (vlS l (r, m)).hi, .bool (vlS l (r, m)).has]) ∧ Below w.heap.size w w' := by
  cases r with
  | false =>
    rw [show vlS l (false, m) = ofS m m from rfl]
    clear hT hv
    go_enter Tryd.func27, Tryd.ntmps27
    go_wp2_with (go_at_call 59; refine (rOf_any _ _ _).mono ?_; rintro e w1 ⟨rfl, rfl⟩)
    refine bodyPost_ret (v := .agg (spC (ofS m m))) ?_ rfl ⟨rfl, ?_⟩
    · simp [results, Tryd.results27, go_sem, spC, ofS]
    · repeat (first | with_reducible exact Below.refl _ _ | with_reducible exact HB3.out | with_reducible refine Below.drew ?_ | with_reducible refine below_drewN ?_ _ | with_reducible refine Below.setCell ?_ ?_ _ | with_reducible refine Below.alloc ?_ ?_ _ | with_reducible exact HB2.out | with_reducible exact HB1.out | with_reducible refine Below.trans ?_ (Below.mono hb3 ?_) | with_reducible refine Below.trans ?_ (Below.mono hb5 ?_) | with_reducible refine Below.trans ?_ (Below.mono hb4 ?_) | omega | (simp; omega) | simp)
  | true =>
    obtain ⟨h1, h2⟩ := hv rfl
    obtain ⟨q, rfl⟩ : ∃ q : Nat, m = q := ⟨m.toNat, by omega⟩
    have hq : q < n := by omega
    have c0 := hT.cell (i := q * 3) (by omega)
    have c1 := hT.cell (i := q * 3 + 1) (by omega)
    have c2 := hT.cell (i := q * 3 + 2) (by omega)
    have hO := hT.lt
    rw [spF_0] at c0
    rw [spF_1] at c1
    rw [spF_2] at c2
    rw [show vlS l (true, (q : Int)) = l q from rfl]
    clear hT hv h1 h2
    obtain ⟨⟨a, b, s⟩, hs⟩ : ∃ s, s = l q := ⟨_, rfl⟩
    rw [← hs] at c0 c1 c2 ⊢
    clear hs
    simp only at c0 c1 c2
    go_enter Tryd.func27, Tryd.ntmps27
    go_wp2_with fail
    refine bodyPost_ret (v := .agg (spC ⟨a, b, s⟩)) ?_ rfl ⟨rfl, ?_⟩
    · simp [results, Tryd.results27, go_sem, spC]
    · repeat (first | with_reducible exact Below.refl _ _ | with_reducible exact HB3.out | with_reducible refine Below.drew ?_ | with_reducible refine below_drewN ?_ _ | with_reducible refine Below.setCell ?_ ?_ _ | with_reducible refine Below.alloc ?_ ?_ _ | with_reducible exact HB2.out | with_reducible exact HB1.out | with_reducible refine Below.trans ?_ (Below.mono hb3 ?_) | with_reducible refine Below.trans ?_ (Below.mono hb5 ?_) | with_reducible refine Below.trans ?_ (Below.mono hb4 ?_) | omega | (simp; omega) | simp)
theorem widen_plain {turn : Nat} {a b : Spn} (ha : SpOk a) (_hb : SpOk b) : newS turn a b = if 2 < turn ∧ a.has = true then ⟨if (joinS a b).lo = a.lo then (joinS a b).lo else minI, if (joinS a b).hi = a.hi then (joinS a b).hi else maxI, (joinS a b).has⟩ else joinS a b := by
  unfold newS
  by_cases he : eqS (joinS a b) a = true
  · rw [if_pos he]
    have e := eqS_iff.1 he
    rw [e]
    simp
  · rw [if_neg he]
    unfold widS
    by_cases h2 : 2 < turn ∧ a.has = true
    · rw [if_pos h2, if_pos h2]
      obtain ⟨_, h3, h4⟩ := joinS_wide (b := b) ha h2.2
      refine Spn.ext' ?_ ?_ rfl
      · show (if (joinS a b).lo < a.lo then minI else (joinS a b).lo) = if (joinS a b).lo = a.lo then (joinS a b).lo else minI
        by_cases h5 : (joinS a b).lo < a.lo
        · rw [if_pos h5, if_neg (by omega)]
        · rw [if_neg h5, if_pos (by omega)]
      · show (if a.hi < (joinS a b).hi then maxI else (joinS a b).hi) = if (joinS a b).hi = a.hi then (joinS a b).hi else maxI
        by_cases h5 : a.hi < (joinS a b).hi
        · rw [if_pos h5, if_neg (by omega)]
        · rw [if_neg h5, if_pos (by omega)]
    · rw [if_neg h2, if_neg h2]
end Go.Proofs.YtdjamkinijhjoaaDoor
namespace Go.Proofs.YtdjamkinijhjoaaDoor
open Go.RowKit

set_option maxRecDepth 100000 in
set_option maxHeartbeats 4000000 in
theorem rWiden_any (a b : Spn) (turn : Nat) (w : World) (ha : SpOk a) (hb : SpOk b) (ht : turn < 1000000000) :
    Calls Tryd.prog 28 #[.agg #[.int .i64 a.lo, .int .i64 a.hi, .bool a.has], .agg #[.int .i64 b.lo, .int .i64 b.hi, .bool b.has], .int .i64 turn] w fun e w' => e = .returned (.agg #[.int .i64 (newS turn a b).lo, .int .i64 (newS turn a b).hi, .bool (newS turn a b).has]) ∧ Below w.heap.size w w' := by
  have HP := hidI (widen_plain (turn := turn) ha hb)
  have HJ := hidI (rJoin_any a b)
  clear ha hb
  obtain ⟨⟨jl, jh, js⟩, hj⟩ : ∃ x, x = joinS a b := ⟨_, rfl⟩
  rw [← hj] at HJ HP
  clear hj
  obtain ⟨nw, hn⟩ : ∃ x, x = newS turn a b := ⟨_, rfl⟩
  rw [← hn] at HP ⊢
  clear hn
  obtain ⟨l, h, s⟩ := a
  obtain ⟨l2, h2, s2⟩ := b
  simp only at HJ HP
  go_enter Tryd.func28, Tryd.ntmps28
  go_wp2_with fail
  refine (HJ.out _).mono ?_
  rintro e w1 ⟨rfl, hb1⟩
  obtain ⟨W, hW⟩ : ∃ W, W = (((w.alloc (.cells #[.int .i64 l, .int .i64 h, .bool s] 40)).alloc (.cells #[.int .i64 l2, .int .i64 h2, .bool s2] 40)).alloc (.cells #[.int .i64 0, .int .i64 0, .bool false] 40)) := ⟨_, rfl⟩
  rw [← hW] at hb1
  have h0 : Below w.heap.size w W := by rw [hW]; repeat (first | with_reducible exact Below.refl _ _ | with_reducible exact HB3.out | with_reducible refine Below.drew ?_ | with_reducible refine below_drewN ?_ _ | with_reducible refine Below.setCell ?_ ?_ _ | with_reducible refine Below.alloc ?_ ?_ _ | with_reducible exact HB2.out | with_reducible exact HB1.out | with_reducible refine Below.trans ?_ (Below.mono hb3 ?_) | with_reducible refine Below.trans ?_ (Below.mono hb5 ?_) | with_reducible refine Below.trans ?_ (Below.mono hb4 ?_) | omega | (simp; omega) | simp)
  have HB := hidI (h0.trans (hb1.mono h0.size))
  have hx := (hb1.block w.heap.size (by rw [hW]; simp; omega)).trans (show W.heap[w.heap.size]? = some (.cells #[.int .i64 l, .int .i64 h, .bool s] 40 (0, 0)) from by rw [hW]; exact heap_step (heap_step (heap_here w _)))
  have hz := (hb1.block (w.heap.size + 1 + 1) (by rw [hW]; simp)).trans (show W.heap[w.heap.size + 1 + 1]? = some (.cells #[.int .i64 0, .int .i64 0, .bool false] 40 (0, 0)) from by rw [hW]; exact heap_at (by simp))
  clear hb1 hW h0
  have x0 := (blk hx).1 0
  have x1 := (blk hx).1 1
  have x2 := (blk hx).1 2
  have z0 := (blk hz).1 0
  have z1 := (blk hz).1 1
  have z2 := (blk hz).1 2
  have zf := (blk hz).2
  have zx := ltHeap hx
  have zz := ltHeap hz
  simp only [List.getElem?_toArray, List.getElem?_cons_zero, List.getElem?_cons_succ] at x0 x1 x2 z0 z1 z2
  clear hx hz HJ
  by_cases ht3 : 2 < turn
  · have hge : decide ((3 : Int) ≤ turn) = true := by simp; omega
    cases s with
    | true =>
      have hp := HP.out
      rw [if_pos ⟨ht3, rfl⟩] at hp
      clear HP
      by_cases e1 : jl = l
      · rw [if_pos e1] at hp
        by_cases e2 : jh = h
        · rw [if_pos e2] at hp
          subst hp
          go_wp2_with fail
          refine bodyPost_ret ?_ rfl ⟨rfl, ?_⟩
          · simp [results, Tryd.results28, go_sem, *]
          · have := HB.out.size
            repeat (first | with_reducible exact HB.out | with_reducible refine Below.setCell ?_ ?_ _ | with_reducible refine Below.alloc ?_ ?_ _ | omega | (simp; omega) | simp)
        · rw [if_neg e2] at hp
          subst hp
          go_wp2_with fail
          refine bodyPost_ret ?_ rfl ⟨rfl, ?_⟩
          · simp [results, Tryd.results28, go_sem, maxI, *]
          · have := HB.out.size
            repeat (first | with_reducible exact HB.out | with_reducible refine Below.setCell ?_ ?_ _ | with_reducible refine Below.alloc ?_ ?_ _ | omega | (simp; omega) | simp)
      · rw [if_neg e1] at hp
        by_cases e2 : jh = h
        · rw [if_pos e2] at hp
          subst hp
          go_wp2_with fail
          refine bodyPost_ret ?_ rfl ⟨rfl, ?_⟩
          · simp [results, Tryd.results28, go_sem, minI, *]
          · have := HB.out.size
            repeat (first | with_reducible exact HB.out | with_reducible refine Below.setCell ?_ ?_ _ | with_reducible refine Below.alloc ?_ ?_ _ | omega | (simp; omega) | simp)
        · rw [if_neg e2] at hp
          subst hp
          go_wp2_with fail
          refine bodyPost_ret ?_ rfl ⟨rfl, ?_⟩
          · simp [results, Tryd.results28, go_sem, minI, maxI, *]
          · have := HB.out.size
            repeat (first | with_reducible exact HB.out | with_reducible refine Below.setCell ?_ ?_ _ | with_reducible refine Below.alloc ?_ ?_ _ | omega | (simp; omega) | simp)
    | false =>
      have hp := HP.out
      rw [if_neg (fun h => by cases h.2)] at hp
      clear HP
      subst hp
      go_wp2_with fail
      refine bodyPost_ret ?_ rfl ⟨rfl, ?_⟩
      · simp [results, Tryd.results28, go_sem, *]
      · have := HB.out.size
        repeat (first | with_reducible exact HB.out | with_reducible refine Below.setCell ?_ ?_ _ | with_reducible refine Below.alloc ?_ ?_ _ | omega | (simp; omega) | simp)
  · have hge : decide ((3 : Int) ≤ turn) = false := by simp; omega
    have hp := HP.out
    rw [if_neg (fun h => ht3 h.1)] at hp
    clear HP
    subst hp
    go_wp2_with fail
    refine bodyPost_ret ?_ rfl ⟨rfl, ?_⟩
    · simp [results, Tryd.results28, go_sem, *]
    · have := HB.out.size
      repeat (first | with_reducible exact HB.out | with_reducible refine Below.setCell ?_ ?_ _ | with_reducible refine Below.alloc ?_ ?_ _ | omega | (simp; omega) | simp)
end Go.Proofs.YtdjamkinijhjoaaDoor
namespace Go.Proofs.YtdjamkinijhjoaaDoor
open Go.RowKit

def OkS (l : Nat → Spn) : Prop := ∀ r, SpOk (l r)
theorem OkS.vl {l : Nat → Spn} (h : OkS l) {v : Bool × Int} (hv : I64 v.2) : SpOk (vlS l v) := by
  unfold vlS
  split
  · exact h _
  · unfold I64 at hv
    exact .of (by omega) (by omega) (by omega)
theorem OkS.phs {l : Nat → Spn} (h : OkS l) : ∀ (src : List (Bool × Int)) (s : Spn), (∀ v ∈ src, I64 v.2) → SpOk s → SpOk (src.foldl (fun s v => joinS s (vlS l v)) s)
  | [], _, _, hs => hs
  | v :: src, _s, hv, hs => h.phs src _ (fun x hx => hv x (List.mem_cons_of_mem _ hx)) (hs.join (h.vl (hv v List.mem_cons_self)))
theorem OkS.made {l : Nat → Spn} (h : OkS l) {n : Nat} : ∀ {x : ItS}, ItOk n x → SpOk (x.made l)
  | .phi p, hx => h.phs p.src _ (fun v hv => (hx.2 v hv).1) .none
  | .ins _i, hx => .mak (h.vl hx.2.2.2.1) (h.vl hx.2.2.2.2.1) hx.2.1
theorem OkS.it {turn n : Nat} {s : (Nat → Spn) × Bool} {x : ItS} (h : OkS s.1) (hx : ItOk n x) : OkS (itS turn s x).1 := by
  unfold itS
  split
  · exact h
  · exact putSp_ok h (h.made hx)
theorem newS_same {turn : Nat} {a b : Spn} (h : eqS (joinS a b) a = true) : newS turn a b = a := by unfold newS; rw [if_pos h]
/-- one more of a round -/
structure StepS (n turn : Nat) (s s' : (Nat → Spn) × Bool) : Prop where
  ok : OkS s'.1
  flag : s'.2 = false → s.2 = false ∧ s'.1 = s.1
  le : 2 < turn → rksS n s'.1 ≤ rksS n s.1
  lt : 2 < turn → s.2 = false → s'.2 = true → rksS n s'.1 < rksS n s.1
theorem itS_step {turn n : Nat} {s : (Nat → Spn) × Bool} {x : ItS} (h : OkS s.1) (hx : ItOk n x) : StepS n turn s (itS turn s x) := by
  refine ⟨h.it hx, ?_, ?_, ?_⟩
  · unfold itS
    split
    · exact fun e => ⟨e, rfl⟩
    · intro e
      have e : (s.2 || chgS s.1 x.dst.toNat (x.made s.1)) = false := e
      rw [Bool.or_eq_false_iff] at e
      refine ⟨e.1, ?_⟩
      have e2 : eqS (joinS (s.1 x.dst.toNat) (x.made s.1)) (s.1 x.dst.toNat) = true := by simpa [chgS] using e.2
      show putSp turn s.1 x.dst.toNat (x.made s.1) = s.1
      unfold putSp
      rw [newS_same e2, setS_same]
  · intro h2
    unfold itS
    split
    · exact Nat.le_refl _
    · show rksS n (putSp turn s.1 x.dst.toNat (x.made s.1)) ≤ _
      unfold putSp
      refine (rksS_set ?_ n).1
      cases e : eqS (joinS (s.1 x.dst.toNat) (x.made s.1)) (s.1 x.dst.toNat)
      · exact Nat.le_of_lt (new_rank h2 (h _) (h.made hx) e)
      · rw [newS_same e]; exact Nat.le_refl _
  · intro h2 h3
    unfold itS
    split
    · intro h4; rw [h3] at h4; cases h4
    · next hd =>
      intro h4
      have h4 : (s.2 || chgS s.1 x.dst.toNat (x.made s.1)) = true := h4
      rw [h3, Bool.false_or] at h4
      have e : eqS (joinS (s.1 x.dst.toNat) (x.made s.1)) (s.1 x.dst.toNat) = false := by simpa [chgS] using h4
      show rksS n (putSp turn s.1 x.dst.toNat (x.made s.1)) < _
      unfold putSp
      have hr := new_rank h2 (h x.dst.toNat) (h.made hx) e
      exact (rksS_set (Nat.le_of_lt hr) n).2 (by have := hx.dst; omega) hr
theorem StepS.trans {n turn : Nat} {a b c : (Nat → Spn) × Bool} (h : StepS n turn a b) (g : StepS n turn b c) : StepS n turn a c :=
  ⟨g.ok, fun e => by
    obtain ⟨e1, e2⟩ := g.flag e
    obtain ⟨e3, e4⟩ := h.flag e1
    exact ⟨e3, e2.trans e4⟩, fun t => Nat.le_trans (g.le t) (h.le t), fun t ha hc => by
    cases hb : b.2
    · exact Nat.lt_of_lt_of_le (g.lt t hb hc) (h.le t)
    · exact Nat.lt_of_le_of_lt (g.le t) (h.lt t ha hb)⟩
theorem fold_step {turn n : Nat} : ∀ (L : List ItS) {s : (Nat → Spn) × Bool}, OkS s.1 → (∀ x ∈ L, ItOk n x) → StepS n turn s (L.foldl (itS turn) s)
  | [], _, h, _ => ⟨h, fun e => ⟨e, rfl⟩, fun _ => Nat.le_refl _, fun _ a b => by rw [List.foldl_nil, a] at b; cases b⟩
  | x :: L, s, h, hL => by
    have h1 := itS_step (turn := turn) h (hL x List.mem_cons_self)
    exact h1.trans (fold_step L h1.ok fun y hy => hL y (List.mem_cons_of_mem _ hy))

/-- all that is made anew in a function is right -/
def FunOk (f : FunL) : Prop := ∀ x ∈ itsF f, ItOk f.regs.toNat x
theorem rnd_step {f : FunL} (hf : FunOk f) (turn : Nat) {l : Nat → Spn} (h : OkS l) : StepS f.regs.toNat turn (l, false) (rndS f turn l) := fold_step (itsF f) h hf
theorem ms_fall {f : FunL} (hf : FunOk f) {t : Nat} {l : Nat → Spn} (h : OkS l) (hc : (rndS f t l).2 = true) : msS f.regs.toNat (t + 1) (rndS f t l).1 < msS f.regs.toNat t l := by
  have hs := rnd_step hf t h
  unfold msS
  by_cases h2 : 2 < t
  · have := hs.lt h2 rfl hc
    have e1 : 3 - (t + 1) = 0 := by omega
    have e2 : 3 - t = 0 := by omega
    rw [e1, e2]
    have this : rksS f.regs.toNat (rndS f t l).1 < rksS f.regs.toNat l := this
    omega
  · have h3 := rksS_le f.regs.toNat (rndS f t l).1
    obtain ⟨k, hk⟩ : ∃ k, 3 - t = k + 1 := ⟨2 - t, by omega⟩
    have e1 : 3 - (t + 1) = k := by omega
    rw [hk, e1, Nat.add_mul]
    omega
theorem OkS.init (f : FunL) : OkS (initS f) := fun r => by
  unfold initS
  split
  · exact .all
  · exact .none
/-- the walk's invariant: fuel that is left, and what it comes to -/
structure LeftS (f : FunL) (t : Nat) (l : Nat → Spn) (k : Nat) : Prop where
  ok : OkS l
  fuel : msS f.regs.toNat t l < k
  same : spnN f k t l = spnF f
theorem LeftS.start (f : FunL) : LeftS f 0 (initS f) (msS f.regs.toNat 0 (initS f) + 1) := ⟨.init f, by omega, rfl⟩
theorem LeftS.next {f : FunL} (hf : FunOk f) {t : Nat} {l : Nat → Spn} {k : Nat} (h : LeftS f t l (k + 1)) (hc : (rndS f t l).2 = true) : LeftS f (t + 1) (rndS f t l).1 k :=
  ⟨(rnd_step hf t h.ok).ok, by have := ms_fall hf h.ok hc; have := h.fuel; omega, by
    have e := h.same
    unfold spnN at e
    rw [if_pos hc] at e
    exact e⟩
theorem LeftS.last {f : FunL} (hf : FunOk f) {t : Nat} {l : Nat → Spn} {k : Nat} (h : LeftS f t l (k + 1)) (hc : (rndS f t l).2 = false) : l = spnF f := by
  have e := h.same
  unfold spnN at e
  rw [if_neg (by simp [hc])] at e
  rw [← e]
  exact ((rnd_step hf t h.ok).flag hc).2.symm

theorem fold_calm {turn n : Nat} : ∀ (L : List ItS) {s : (Nat → Spn) × Bool}, OkS s.1 → (∀ x ∈ L, ItOk n x) → (L.foldl (itS turn) s).2 = false → ∀ x ∈ L, 0 ≤ x.dst → joinS (s.1 x.dst.toNat) (x.made s.1) = s.1 x.dst.toNat
  | [], _, _, _, _, x, hx, _ => by cases hx
  | y :: L, s, h, hL, hc, x, hx, hd => by
    have h1 := itS_step (turn := turn) h (hL y List.mem_cons_self)
    have h2 := fold_step (turn := turn) L h1.ok (fun z hz => hL z (List.mem_cons_of_mem _ hz))
    obtain ⟨c1, _⟩ := h2.flag hc
    obtain ⟨_, c3⟩ := h1.flag c1
    rcases List.mem_cons.1 hx with e | hx
    · subst e
      unfold itS at c1
      rw [if_neg (by omega)] at c1
      have c1 : (s.2 || chgS s.1 x.dst.toNat (x.made s.1)) = false := c1
      rw [Bool.or_eq_false_iff] at c1
      exact eqS_iff.1 (by simpa [chgS] using c1.2)
    · have := fold_calm L h1.ok (fun z hz => hL z (List.mem_cons_of_mem _ hz)) hc x hx hd
      rw [c3] at this
      exact this
theorem spnN_calm {f : FunL} (hf : FunOk f) : ∀ (k t : Nat) (l : Nat → Spn), OkS l → msS f.regs.toNat t l < k → OkS (spnN f k t l) ∧ ∃ t', (rndS f t' (spnN f k t l)).2 = false
  | 0, _, _, _, h => by omega
  | k + 1, t, l, h, hm => by
    unfold spnN
    cases hc : (rndS f t l).2
    · rw [if_neg (by simp)]
      have hs := rnd_step hf t h
      refine ⟨hs.ok, t, ?_⟩
      rw [(hs.flag hc).2]
      exact hc
    · rw [if_pos rfl]
      exact spnN_calm hf k (t + 1) _ (rnd_step hf t h).ok (by have := ms_fall hf h hc; omega)
/-- nothing that is made anew changes what they are -/
theorem spnF_calm {f : FunL} (hf : FunOk f) : OkS (spnF f) ∧ ∀ x ∈ itsF f, 0 ≤ x.dst → joinS (spnF f x.dst.toNat) (x.made (spnF f)) = spnF f x.dst.toNat := by
  obtain ⟨h1, t, h2⟩ := spnN_calm hf (msS f.regs.toNat 0 (initS f) + 1) 0 (initS f) (.init f) (by omega)
  exact ⟨h1, fold_calm (itsF f) (s := (spnF f, false)) h1 hf h2⟩

theorem all_stays {turn : Nat} {b : Spn} (hb : SpOk b) : newS turn allS b = allS := by
  have e : joinS allS b = allS := by
    cases h : b.has
    · exact joinS_right rfl h
    · rw [joinS_has rfl h]
      have := hb.lo
      have := hb.hi
      unfold I64 at *
      exact Spn.ext' (by show min minI _ = minI; unfold minI; omega) (by show max maxI _ = maxI; unfold maxI; omega) rfl
  exact newS_same (eqS_iff.2 e)
theorem fold_all {turn n : Nat} {r : Nat} : ∀ (L : List ItS) {s : (Nat → Spn) × Bool}, OkS s.1 → (∀ x ∈ L, ItOk n x) → s.1 r = allS → (L.foldl (itS turn) s).1 r = allS
  | [], _, _, _, h => h
  | x :: L, s, h, hL, hr => by
    have hx := hL x List.mem_cons_self
    refine fold_all L (s := itS turn s x) (h.it hx) (fun y hy => hL y (List.mem_cons_of_mem _ hy)) ?_
    unfold itS
    split
    · exact hr
    · show putSp turn s.1 x.dst.toNat (x.made s.1) r = allS
      unfold putSp setS
      split
      · next e => rw [← e, hr]; exact all_stays (h.made hx)
      · exact hr
theorem spnN_all {f : FunL} (hf : FunOk f) {r : Nat} : ∀ (k t : Nat) (l : Nat → Spn), OkS l → l r = allS → spnN f k t l r = allS
  | 0, _, _, _, h => h
  | k + 1, t, l, h, hr => by
    have h1 : (rndS f t l).1 r = allS := fold_all (itsF f) (s := (l, false)) h hf hr
    unfold spnN
    split
    · exact spnN_all hf k _ _ (rnd_step hf t h).ok h1
    · exact h1
/-- parameters have all numbers -/
theorem spnF_params {f : FunL} (hf : FunOk f) {r : Nat} (h : (r : Int) < f.params) : spnF f r = allS :=
  spnN_all hf _ _ _ (.init f) (by unfold initS; rw [if_pos h])
theorem joinS_all {a : Spn} (ha : SpOk a) (h : joinS a allS = a) : a = allS := by
  cases h1 : a.has
  · rw [joinS_left h1] at h; exact h.symm
  · rw [joinS_has h1 rfl] at h
    have hl := congrArg Spn.lo h
    have hh := congrArg Spn.hi h
    have hl : min a.lo minI = a.lo := hl
    have hh : max a.hi maxI = a.hi := hh
    have := ha.lo
    have := ha.hi
    unfold I64 at *
    refine Spn.ext' ?_ ?_ h1
    · show a.lo = minI
      unfold minI at *; omega
    · show a.hi = maxI
      unfold maxI at *; omega
/-- what comes from outside has all numbers -/
theorem spnF_outside {f : FunL} (hf : FunOk f) {i : InsL} (hi : ItS.ins i ∈ itsF f) (ho : 17 < i.op) (hd : 0 ≤ i.dst) : spnF f i.dst.toNat = allS := by
  obtain ⟨h1, h2⟩ := spnF_calm hf
  have h3 := h2 _ hi hd
  have e : (ItS.ins i).made (spnF f) = allS := by
    show makS _ _ _ = allS
    unfold makS
    rw [if_pos ho]
  rw [e] at h3
  exact joinS_all (h1 _) h3
end Go.Proofs.YtdjamkinijhjoaaDoor
namespace Go.Proofs.YtdjamkinijhjoaaDoor
open Go.RowKit Go.Shelf

/-- an iterator that hands over el 0, el 1, .. up to N, one behind the other -/
def SeqAt (F : Fence) (n : Nat) (P : Program) (g : Nat) (lb : Array Value) (el : Nat → Array Value) (N : Nat) (Kp : World → World → Prop) (w : World) : Prop :=
  ∀ (l : Nat) (J Jx : Nat → World → Prop) (W : World), Below w.heap.size w W → AbidesFrom W.heap.size J → AbidesFrom W.heap.size Jx →
    (∀ i W1, i < N → J i W1 → YieldAt F (n - 1) P l (el i) W1 fun e W' => (e = .returned (.bool true) ∧ J (i + 1) W' ∧ Kp W1 W') ∨ (e = .returned (.bool false) ∧ Jx i W')) → J 0 W →
    CallsIn F n P g (#[.func (.yield l) #[] #[]] ++ lb) W fun e W' => (∃ v, e = .returned v) ∧ (J N W' ∨ ∃ i, i < N ∧ Jx i W')
/-- how a round may end -/
def roundPost (B : Nat) (Kp : World → World → Prop) (I : Nat → World → Prop) (Ix : Code → Nat → World → Prop) (i : Nat) (W : World) (e : Exit) (W' : World) : Prop :=
  KeepsFrom B W W' ∧ match e with
    | .normal => Kp W W' ∧ I (i + 1) W'
    | .ret => Ix .ret i W'
    | .exit id => Ix (.exit id) i W'
    | .goto t => Ix (.goto t) i W'
    | _ => False
section
variable {F : Fence} {n : Nat} {P : Program} {g : Operand} {ps : Array Tmp} {assign body : Code} {Q : Exit → Act → World → Prop} {a : Act} {w : World} {gf : Nat} {lb : Array Value} {el : Nat → Array Value} {N : Nat} {Kp : World → World → Prop} {w0 : World}
theorem wpIn_rangeAt (hro : F.round = none) (h1 : 1 ≤ n) (hg : a.eval g = .func (.func gf) #[] lb) (hFg : F.fn gf) (eg : ∀ args w, (callFunc gf args).run P w = .ok (.enter gf args) w) (hseq : SeqAt F (n - 1) P gf lb el N Kp w0)
    (hKt : ∀ {A B C : World}, Kp A B → Kp B C → Kp A C) (hKb : ∀ (W : World) (l : Nat) (o o' : Obj), w.heap.size ≤ l → W.heap[l]? = some o → o.isCells = false → o.isWalk = false → Kp W (W.putObj l o')) (hb0 : Below w0.heap.size w0 w) (hps : ∀ i, i < N → (el i).size = ps.size)
    (I : Nat → World → Prop) (Ix : Code → Nat → World → Prop) (hI : OwnFrom w.heap.size I) (hIx : ∀ c, OwnFrom w.heap.size (Ix c)) (h0 : I 0 w) (a₁ : Nat → Act)
    (hassign : ∀ (l i : Nat) (W : World) (K : Act → World → Prop), i < N → K (a₁ i) W → assign.wpIn (F.inRound l) (n - 1 - 1) P (Exit.then K (fun _ _ _ => False)) { tmps := (ps.zip (el i)).foldl (fun t (p, v) => t.setIfInBounds p v) a.tmps, defers := [] } W)
    (hbody : ∀ (l i : Nat) (W : World), w.heap.size ≤ l → i < N → I i W → body.wpIn (F.inRound l) (n - 1 - 1) P (fun e _ W' => roundPost w.heap.size Kp I Ix i W e W') (a₁ i) W)
    (hdone : ∀ (D : Nat) (W : World), w.heap.size ≤ D → I N W → W.heap[D]? = some (.deferred (some [])) → Q .normal { a with defers := { target := .collected D, args := #[] } :: a.defers } W)
    (hstop : ∀ (D : Nat) (c : Code) (i : Nat) (W : World), w.heap.size ≤ D → i < N → Ix c i W → W.heap[D]? = some (.deferred (some [])) → c.wpIn F n P Q { a with defers := { target := .collected D, args := #[] } :: a.defers } W) :
    (Code.rangeFunc g ps assign body).wpIn F n P Q a w := by
  refine wpIn_rangeFunc fun fn hfn => ?_
  rw [hro]
  -- the record of the loop and the block for what rounds defer: the blocks L and D
  obtain ⟨rec, hrec⟩ : ∃ rec : LoopState → Option Code → Loop, rec = fun st pe => { state := st, pending := pe, fn, tmps := a.tmps, params := ps, assign, body, defers := w.heap.size } := ⟨_, rfl⟩
  have hst : ∀ st pe, { rec .ready none with state := st, pending := pe } = rec st pe := fun st pe => by rw [hrec]
  let Bk : LoopState → Option Code → World → Prop := fun st pe W => W.heap[w.heap.size + 1]? = some (.loop (rec st pe)) ∧ W.heap[w.heap.size]? = some (.deferred (some []))
  have hBk0 : Bk .ready none ((w.alloc (.deferred (some []))).alloc (.loop (rec .ready none))) :=
    ⟨heap_at (by simp), heap_step (heap_here w _)⟩
  have hBkg : ∀ {st pe A B row}, Bk st pe A → A.grownBy B row → (∀ r, row = some r → ∃ o : Obj, A.heap[r]? = some o ∧ o.isWalk = true) → Bk st pe B := fun h hg hr =>
    ⟨(grownBy_keeps hg hr h.1 rfl).trans h.1, (grownBy_keeps hg hr h.2 rfl).trans h.2⟩
  have hBkp : ∀ {st pe st' pe' A}, Bk st pe A → Bk st' pe' (A.putObj (w.heap.size + 1) (.loop (rec st' pe'))) := fun {st pe st' pe' A} h =>
    ⟨World.putObj_heap_same (ltHeap h.1), (World.putObj_heap_other (by omega)).trans h.2⟩
  obtain ⟨W1, hW1⟩ : ∃ W1, W1 = (w.alloc (.deferred (some []))).alloc (.loop (rec .ready none)) := ⟨_, rfl⟩
  rw [← hW1] at hBk0
  have hz1 : W1.heap.size = w.heap.size + 1 + 1 := by rw [hW1]; simp
  have hent : (Instr.enterLoop fn a.tmps ps assign body none).run P w = .ok (w.heap.size + 1, [{ target := .collected w.heap.size, args := #[] }]) W1 := by
    rw [hW1, hrec]; exact run_enterLoop_outer _ _ _ _ _
  refine ⟨w.heap.size + 1, [{ target := .collected w.heap.size, args := #[] }], W1, { target := .fn (.func gf) lb, args := #[.func (.yield (w.heap.size + 1)) #[] #[]] }, W1, gf,
    #[.func (.yield (w.heap.size + 1)) #[] #[]] ++ lb, W1, hent, ?_, fun f' hf' => by simp [Target.leads] at hf'; subst hf'; exact hFg, ?_, fun _ => h1, ?_⟩
  · simp only [resolve, hg]
    simp [go_sem]
  · simp [invoke, go_sem, eg]
  have hwalk : ∀ {A : World} {row : Option Nat}, (∀ r, row = some r → W1.heap.size ≤ r ∧ ∃ o : Obj, A.heap[r]? = some o ∧ o.isWalk = true) → ∀ r, row = some r → w.heap.size ≤ r ∧ ∃ o : Obj, A.heap[r]? = some o ∧ o.isCells = false := fun hr r e => by
    obtain ⟨hB, o, ho, hw⟩ := hr r e
    exact ⟨by omega, o, ho, Obj.not_cells_of_walk hw⟩
  refine (hseq (w.heap.size + 1) (fun i W => I i W ∧ Bk .ready none W) (fun i W => ∃ c, Ix c i W ∧ Bk .done (some c) W) _
    (by rw [hW1]; exact hb0.trans ((((Below.refl _ w).alloc (Nat.le_refl _) _).alloc (by simp) _).mono hb0.size))
    (fun s A B row hs hg' hr => ⟨hI s A B row hs.1 hg' (hwalk hr), hBkg hs.2 hg' fun r e => (hr r e).2⟩)
    (fun s A B row ⟨c, hc, hk⟩ hg' hr => ⟨c, hIx c s A B row hc hg' (hwalk hr), hBkg hk hg' fun r e => (hr r e).2⟩)
    (fun i W hlt ⟨hi, hk⟩ => ?_) ⟨by rw [hW1]; exact hI.alloc _ (hI.alloc _ h0), hBk0⟩).mono ?_
  · have hy := run_yield (P := P) (args := el i) hk.1 (by rw [hrec]; exact hps i hlt)
    rw [hrec] at hy
    refine ⟨fn, _, assign, body, hy, roundIn_of_wpIn hfn (hassign _ i W _ hlt ⟨_, run_beginRound hk.1 (by rw [hrec]), ?_⟩)⟩
    rw [show ({ rec .ready none with state := .busy } : Loop) = rec .busy none by rw [hrec]]
    have hkb := hBkp (st' := .busy) (pe' := none) hk
    refine wpIn_mono (hbody _ i _ (by omega) hlt (hI.putObj _ hi (by omega) hk.1 rfl)) fun e a3 W3 ⟨hk3, hp⟩ => ?_
    have hb3 : Bk .busy none W3 := ⟨hk3.same _ _ (by omega) hkb.1 rfl, hk3.same _ _ (Nat.le_refl _) hkb.2 rfl⟩
    have fin : ∀ jump : Option Code, (Instr.endRound (w.heap.size + 1) jump).run P W3 = .ok (.bool jump.isNone) (W3.putObj (w.heap.size + 1) (.loop (rec (if jump.isNone then .ready else .done) jump))) := fun jump => by
      have := run_endRound (P := P) jump hb3.1
      rw [hrec] at this ⊢
      exact this
    have leave : ∀ c : Code, Ix c i W3 → _ := fun c hc => (⟨.bool false, W3.putObj (w.heap.size + 1) (.loop (rec .done (some c))), fin (some c), .inr ⟨rfl, c, (hIx c).putObj _ hc (by omega) hb3.1 rfl, hBkp hb3⟩⟩ : ∃ v W4, (Instr.endRound (w.heap.size + 1) (some c)).run P W3 = .ok v W4 ∧ ((Ending.returned v = .returned (.bool true) ∧ (I (i + 1) W4 ∧ Bk .ready none W4) ∧ Kp W W4) ∨ (Ending.returned v = .returned (.bool false) ∧ ∃ c, Ix c i W4 ∧ Bk .done (some c) W4)))
    cases e with
    | normal =>
      exact ⟨_, _, fin none, .inl ⟨rfl, ⟨hI.putObj _ hp.2 (by omega) hb3.1 rfl, hBkp hb3⟩, hKt (hKt (hKb _ _ _ _ (by omega) hk.1 rfl rfl) hp.1) (hKb _ _ _ _ (by omega) hb3.1 rfl rfl)⟩⟩
    | ret => exact leave _ hp
    | exit id => exact leave _ hp
    | goto t => exact leave _ hp
    | panic ch => exact hp.elim
    | outgrown => exact hp.elim
  · have shut : ∀ {st pe W2}, st ≠ .busy → Bk st pe W2 → (Instr.endLoop (w.heap.size + 1)).run P W2 = .ok pe (W2.putObj (w.heap.size + 1) (.loop (rec .exhausted pe))) := fun {st pe W2} hne hk => by
      have := run_endLoop (P := P) hk.1 (by rw [hrec]; exact hne)
      rw [hrec] at this ⊢
      exact this
    rintro e W2 ⟨⟨v, rfl⟩, (⟨hi, hk⟩ | ⟨i, hlt, c, hi, hk⟩)⟩
    · exact ⟨none, _, shut (by simp) hk, hdone _ _ (Nat.le_refl _) (hI.putObj _ hi (by omega) hk.1 rfl) (hBkp hk).2⟩
    · exact ⟨some c, _, shut (by simp) hk, hstop _ c i _ (Nat.le_refl _) hlt ((hIx c).putObj _ hi (by omega) hk.1 rfl) (hBkp hk).2⟩
end
end Go.Proofs.YtdjamkinijhjoaaDoor
namespace Go.Proofs.YtdjamkinijhjoaaDoor
open Go.RowKit Go.Shelf
attribute [local go_sem] Oper.semAt_some

/-- a frame of a known length, slot by slot -/
theorem frame_list {ts : Array Value} {n : Nat} (h : ts.size = n) : ts = ((List.range n).map fun i => ts.getD i undef).toArray := by
  subst h
  refine Array.ext (by simp) fun i h1 h2 => ?_
  simp [Array.getD, h1]

theorem cell_noCells {W : World} {l b o : Nat} {x : Obj} {v : Value} (h : W.heap[l]? = some x) (hx : x.isCells = false) (hc : W.cell? ⟨b, o, none⟩ = some v) : b ≠ l := by
  rintro rfl
  unfold World.cell? at hc
  rw [h] at hc
  cases x <;> simp [Obj.isCells] at hx hc
end Go.Proofs.YtdjamkinijhjoaaDoor
namespace Go.Proofs.YtdjamkinijhjoaaDoor
open Go.RowKit Go.Shelf
attribute [local go_sem] Oper.semAt_some

/-- what the iterator reads: its box, the numbers -/
structure BackSh (X : Nat) (p : Option Addr) (c : Nat) (xs : List Int) (W : World) : Prop where
  box : W.cell? ⟨X, 0, none⟩ = some (.slice p xs.length c)
  el : ∀ i (h : i < xs.length), ∃ b o, p = some ⟨b, o, none⟩ ∧ W.cell? ⟨b, o + i, none⟩ = some (.int .i64 xs[i])
theorem BackSh.other {X c : Nat} {p : Option Addr} {xs : List Int} {W W' : World} (h : BackSh X p c xs W) (hk : ∀ b o v, W.cell? ⟨b, o, none⟩ = some v → (b = X ∨ ∃ o, p = some ⟨b, o, none⟩) → W'.cell? ⟨b, o, none⟩ = some v) : BackSh X p c xs W' :=
  ⟨hk _ _ _ h.box (.inl rfl), fun i hi => by
    obtain ⟨b, o, hp, hc⟩ := h.el i hi
    exact ⟨b, o, hp, hk _ _ _ hc (.inr ⟨o, hp⟩)⟩⟩
theorem BackSh.putObj {X c : Nat} {p : Option Addr} {xs : List Int} {W : World} (h : BackSh X p c xs W) {l : Nat} {o : Obj} (o' : Obj) (hl : W.heap[l]? = some o) (ho : o.isCells = false) : BackSh X p c xs (W.putObj l o') :=
  h.other fun b o v hc _ => by
    have hne : b ≠ l := cell_noCells hl ho hc
    exact (World.cell?_of_block (a := ⟨b, o, none⟩) (World.putObj_heap_other (by omega))).trans hc
theorem own_back {X c : Nat} {p : Option Addr} {xs : List Int} {B : Nat} : OwnFrom B (fun (_ : Nat) W => BackSh X p c xs W) := fun s W W' row hs hg hr =>
  hs.other fun b o v hc _ => (World.cell?_of_block (a := ⟨b, o, none⟩) (hg.block b (lt_of_cell hc) (fun e => by
    obtain ⟨_, x, hx, hn⟩ := hr b e.symm
    exact cell_noCells hx hn hc rfl))).trans hc

/-- the element of round i: the last one first -/
def backEl (xs : List Int) (i : Nat) : Array Value := #[.int .i64 ((xs.length - 1 - i : Nat) : Int), .int .i64 (xs.getD (xs.length - 1 - i) 0)]

set_option maxRecDepth 100000 in
set_option maxHeartbeats 2000000 in
theorem backward_any (p : Option Addr) (n c : Nat) (w : World) :
    Calls Tryd.prog 106 #[.slice p n c] w fun e w' => e = .returned (.func (.func 133) #[] #[.pointer (some ⟨w.heap.size, 0, none⟩)]) ∧ w' = w.alloc (.cells #[.slice p n c] 46) := by
  go_enter Tryd.func106, Tryd.ntmps106
  go_wp2
  go_ret
  exact ⟨rfl, rfl⟩

set_option maxRecDepth 100000 in
set_option maxHeartbeats 2000000 in
theorem back_at (F : Fence) (n : Nat) (hF : F.fn 133) (hro : F.round = none) (hn : 1 ≤ n) (X c : Nat) (p : Option Addr) (xs : List Int) (w : World) (hl : xs.length ≤ 140737488355328) (hsh : BackSh X p c xs w) :
    SeqAt F n Tryd.prog 133 #[.pointer (some ⟨X, 0, none⟩)] (backEl xs) xs.length (fun W W' => BackSh X p c xs W → BackSh X p c xs W') w := by
  intro l J Jx W hW _ _ hY h0
  have HS := hidI (hsh.other (W' := W) fun b o v hc _ => (hW.cell (p := ⟨b, o, none⟩) (lt_of_cell hc)).trans hc)
  have HY := hidI hY
  clear hsh hY hW
  refine callsIn_of_wp Tryd.func133 rfl hF ?_ hro
  simp only [Tryd.ntmps133, List.size_toArray, List.length_cons, List.length_nil, Nat.reduceAdd, Nat.reduceSub, Array.replicate_succ, Array.replicate_zero, List.push_toArray, List.append_toArray, List.nil_append, List.cons_append]
  have cb := HS.out.box
  gi_wp2
  gi_loopw [3] (fun i wr => ∃ m : Nat, m ≤ xs.length ∧ i = .int .i64 ((xs.length : Int) - 1 - m) ∧ J m wr ∧ BackSh X p c xs wr) (fun i _ => (intOf i + 1).toNat)
  case atStart => exact ⟨0, by omega, by simp, h0, HS.out⟩
  case round =>
    clear cb
    obtain ⟨m, hm, rfl, hJ, hK⟩ := hrel
    have cb := hK.box
    have HK := hidI hK
    clear hK
    by_cases hlt : m < xs.length
    · have hk : xs.length - 1 - m < xs.length := by omega
      obtain ⟨b, o, rfl, e1⟩ := HK.out.el _ hk
      have hj : (xs.length : Int) - 1 - m = ((xs.length - 1 - m : Nat) : Int) := by omega
      obtain ⟨fn, tmps, assign, body, hy, hR⟩ := HY.out _ wr hlt hJ
      have he : backEl xs m = #[.int .i64 ((xs.length - 1 - m : Nat) : Int), .int .i64 (xs[xs.length - 1 - m])] := by
        unfold backEl
        rw [List.getD_eq_getElem?_getD, List.getElem?_eq_getElem hk]
        rfl
      rw [he] at hy
      rw [hj]
      generalize hkk : xs.length - 1 - m = k at *
      have HKK := hidI hkk
      have HR := hidI hR
      clear hR he hj hkk
      gi_wp2
      refine HR.out.mono ?_
      rintro e W3 (⟨rfl, hJ3, hk3⟩ | ⟨rfl, hJx3⟩)
      · have HK3 := hidI (hk3 HK.out)
        clear hk3
        gi_wp2
        go_roundw
        case rel => exact ⟨m + 1, by omega, by have := HKK.out; congr 1; omega, hJ3, HK3.out⟩
        case measure => simp [intOf]
      · gi_wp2
        refine bodyPost_ret (results_none rfl _ _ _) rfl ?_
        exact ⟨⟨_, rfl⟩, .inr ⟨_, hlt, hJx3⟩⟩
    · obtain rfl : m = xs.length := by omega
      gi_wp2
      go_end0
      exact ⟨⟨_, rfl⟩, .inl hJ⟩
end Go.Proofs.YtdjamkinijhjoaaDoor
