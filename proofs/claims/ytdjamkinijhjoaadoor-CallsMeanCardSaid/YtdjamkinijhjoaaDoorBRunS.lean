/-
  Plain: which functions a run comes to: none but those that main reaches.
Plain: what a function may do, with all that it calls, as seven bits.
Plain: what a run does not do, where main may not do it.
-/
import Derived.Test.YtdjamkinijhjoaaDoorBRunP
import Derived.Test.YtdjamkinijhjoaaDoorBCalO
import Derived.Test.YtdjamkinijhjoaaDoorBPurA
import Derived.Laws.BitsLemmas
namespace Go.Proofs.YtdjamkinijhjoaaDoor
open Go.RowKit

/-- one function reaches another one -/
def ReachU (u : UniL) (m k : Nat) : Prop := Path u.funcs.length (edgeL (graphTo u.funcs u.funcs.length)) m k
theorem reach_call {u : UniL} {m k : Nat} {b : BlkL} {x : InsL} (h : ReachU u m k) (hk : k < u.funcs.length) (hb : b ∈ (fnU u k).blocks) (hx : x ∈ b.list) (h20 : x.op = 20) (hf : 0 ≤ x.fn ∧ x.fn < u.funcs.length) : ReachU u m x.fn.toNat := by
  refine .step h ((edge_iff hk (by omega)).2 ?_) (by omega)
  rw [← fnU_get hk]
  unfold callsB
  rw [List.any_eq_true]
  refine ⟨b, hb, ?_⟩
  rw [List.any_eq_true]
  refine ⟨x, hx, ?_⟩
  unfold callB
  simp only [Bool.and_eq_true, beq_iff_eq]
  omega
/-- all that a run has come to is reached by main -/
structure Seen (u : UniL) (m : Nat) (s : StL) : Prop where
  frs : ∀ f ∈ s.frames, ReachU u m f.fn
  cnt : ∀ k b, s.cnt k b ≠ 0 → ReachU u m k
/-- an instruction of a function that main reaches -/
def InsAt (u : UniL) (m : Nat) (x : InsL) : Prop := ∃ k, k < u.funcs.length ∧ ReachU u m k ∧ ∃ b ∈ (fnU u k).blocks, x ∈ b.list

theorem putS_nil {s : StL} (hs : s.frames = []) (d n : Int) : putS s d n = s := by
  unfold putS
  rw [hs]
theorem jumpS_nil {u : UniL} {s : StL} (hs : s.frames = []) (t : Nat) : jumpS u s t = s := by
  unfold jumpS
  rw [hs]
theorem Seen.put {u : UniL} {m : Nat} {s : StL} (h : Seen u m s) (d n : Int) : Seen u m (putS s d n) := by
  cases hs : s.frames with
  | nil => rw [putS_nil hs]; exact h
  | cons f rest =>
    rw [putS_eq hs]
    refine ⟨fun g hg => ?_, h.cnt⟩
    rcases List.mem_cons.1 hg with e | e
    · rw [e]; exact h.frs f (by rw [hs]; exact List.mem_cons_self)
    · exact h.frs g (by rw [hs]; exact List.mem_cons_of_mem _ e)
theorem bump_seen {u : UniL} {m : Nat} {c : Nat → Nat → Int} {k b : Nat} (h : ∀ x y, c x y ≠ 0 → ReachU u m x) (hk : ReachU u m k) : ∀ x y, bump c k b x y ≠ 0 → ReachU u m x := fun x y hx => by
  unfold bump at hx
  by_cases e : x = k ∧ y = b
  · rw [e.1]; exact hk
  · rw [if_neg e] at hx; exact h x y hx
theorem Seen.jump {u : UniL} {m : Nat} {s : StL} (h : Seen u m s) (t : Nat) : Seen u m (jumpS u s t) := by
  cases hs : s.frames with
  | nil => rw [jumpS_nil hs]; exact h
  | cons f rest =>
    rw [jumpS_eq hs]
    have hf := h.frs f (by rw [hs]; exact List.mem_cons_self)
    refine ⟨fun g hg => ?_, bump_seen h.cnt hf⟩
    rcases List.mem_cons.1 hg with e | e
    · rw [e]; exact hf
    · exact h.frs g (by rw [hs]; exact List.mem_cons_of_mem _ e)
theorem Seen.enter {u : UniL} {m : Nat} {s : StL} (h : Seen u m s) {k : Nat} (hk : ReachU u m k) (d : Int) (args : List Int) : Seen u m (enterS u s k d args) :=
  ⟨fun g hg => by
    rcases List.mem_cons.1 hg with e | e
    · rw [e]; exact hk
    · exact h.frs g e, bump_seen h.cnt hk⟩
theorem seen_end {u : UniL} {m : Nat} {s : StL} (h : Seen u m s) (e : EndL) : Seen u m (endS u s e).1 := by
  unfold endS
  split
  · exact h.jump _
  split
  · exact h.jump _
  split
  · exact h
  · exact ⟨fun g hg => absurd hg (by simp), h.cnt⟩
  · rename_i f g rest hf
    exact Seen.put (s := { s with frames := g :: rest }) ⟨fun x hx => h.frs x (by rw [hf]; exact List.mem_cons_of_mem _ hx), h.cnt⟩ _ _
theorem seen_ins {u : UniL} {m : Nat} {s : StL} (h : Seen u m s) {x : InsL} (hx : x.op = 20 → ReachU u m x.fn.toNat) : Seen u m (insS u s x).1 := by
  unfold insS
  split
  · split
    · exact ⟨h.frs, h.cnt⟩
    split
    · exact ⟨h.frs, h.cnt⟩
    · exact h.put _ _
  split
  · rename_i hop
    split
    · exact ⟨h.frs, h.cnt⟩
    · exact h.enter (hx hop) _ _
  split
  · split
    · exact h.put _ _
    · rename_i n l _
      exact Seen.put (s := { s with inp := l }) ⟨h.frs, h.cnt⟩ _ _
  split
  · split
    · exact ⟨h.frs, h.cnt⟩
    · exact ⟨h.frs, h.cnt⟩
  split
  · exact ⟨h.frs, h.cnt⟩
  · exact h.put _ _
/-- alike but for the functions under way and the counts -/
structure Alike (s t : StL) : Prop where
  mem : t.mem = s.mem
  inp : t.inp = s.inp
  state : t.state = s.state
  value : t.value = s.value
  outs : t.outs = s.outs
  steps : t.steps = s.steps
theorem putS_alike (s : StL) (d n : Int) : Alike s (putS s d n) := by
  cases hs : s.frames with
  | nil => rw [putS_nil hs]; exact ⟨rfl, rfl, rfl, rfl, rfl, rfl⟩
  | cons f rest => rw [putS_eq hs]; exact ⟨rfl, rfl, rfl, rfl, rfl, rfl⟩
theorem jumpS_alike (u : UniL) (s : StL) (t : Nat) : Alike s (jumpS u s t) := by
  cases hs : s.frames with
  | nil => rw [jumpS_nil hs]; exact ⟨rfl, rfl, rfl, rfl, rfl, rfl⟩
  | cons f rest => rw [jumpS_eq hs]; exact ⟨rfl, rfl, rfl, rfl, rfl, rfl⟩
theorem enterS_alike (u : UniL) (s : StL) (k : Nat) (d : Int) (args : List Int) : Alike s (enterS u s k d args) := ⟨rfl, rfl, rfl, rfl, rfl, rfl⟩
/-- an end prints nothing, stores nothing, and ends a run fine or not -/
theorem end_keeps (u : UniL) (s : StL) (e : EndL) : (endS u s e).1.mem = s.mem ∧ (endS u s e).1.inp = s.inp ∧ (endS u s e).1.outs = s.outs ∧ (endS u s e).1.steps = s.steps ∧ ((endS u s e).1.state = s.state ∨ (endS u s e).1.state = 0) := by
  unfold endS
  split
  · have h := jumpS_alike u s (e.to.getD 0 0).toNat
    exact ⟨h.mem, h.inp, h.outs, h.steps, .inl h.state⟩
  split
  · have h := jumpS_alike u s (if valL (topR s) e.onr e.onn = 0 then e.to.getD 1 0 else e.to.getD 0 0).toNat
    exact ⟨h.mem, h.inp, h.outs, h.steps, .inl h.state⟩
  split
  · exact ⟨rfl, rfl, rfl, rfl, .inl rfl⟩
  · exact ⟨rfl, rfl, rfl, rfl, .inr rfl⟩
  · rename_i f g rest hf
    have h := putS_alike { s with frames := g :: rest } f.dst (valL f.regs e.onr e.onn)
    exact ⟨h.mem, h.inp, h.outs, h.steps, .inl h.state⟩
theorem putS_steps (s : StL) (d n : Int) : (putS s d n).steps = s.steps ∧ (putS s d n).inp = s.inp := ⟨(putS_alike s d n).steps, (putS_alike s d n).inp⟩
theorem ins_keeps (u : UniL) (s : StL) (x : InsL) : (insS u s x).1.steps = s.steps ∧ (insS u s x).1.inp.length ≤ s.inp.length := by
  unfold insS
  split
  · split
    · exact ⟨rfl, Nat.le_refl _⟩
    split
    · exact ⟨rfl, Nat.le_refl _⟩
    · obtain ⟨h1, h2⟩ := putS_steps s x.dst (s.mem.getD (valL (topR s) x.ar x.an).toNat 0)
      exact ⟨h1, by rw [h2]; exact Nat.le_refl _⟩
  split
  · split
    · exact ⟨rfl, Nat.le_refl _⟩
    · exact ⟨rfl, Nat.le_refl _⟩
  split
  · split
    · obtain ⟨h1, h2⟩ := putS_steps s x.dst (-1)
      exact ⟨h1, by rw [h2]; exact Nat.le_refl _⟩
    · rename_i n l hl
      obtain ⟨h1, h2⟩ := putS_steps { s with inp := l } x.dst n
      exact ⟨h1, by rw [h2, hl]; simp⟩
  split
  · split
    · exact ⟨rfl, Nat.le_refl _⟩
    · exact ⟨rfl, Nat.le_refl _⟩
  split
  · exact ⟨rfl, Nat.le_refl _⟩
  · obtain ⟨h1, h2⟩ := putS_steps s x.dst (twoL x.op (valL (topR s) x.ar x.an) (valL (topR s) x.br x.bn)).1
    exact ⟨h1, by rw [h2]; exact Nat.le_refl _⟩
theorem step_keeps {u : UniL} {s : StL} (hne : s.frames ≠ []) : (stepS u s).1.steps = s.steps + 1 ∧ (stepS u s).1.inp.length ≤ s.inp.length := by
  unfold stepS
  cases hs : s.frames with
  | nil => exact absurd hs hne
  | cons f rest =>
    simp only
    split
    · obtain ⟨_, h2, _, h4, _⟩ := end_keeps u { s with steps := s.steps + 1, frames := f :: rest } (topB u f).fin
      exact ⟨h4, by rw [h2]; exact Nat.le_refl _⟩
    · exact ins_keeps u { s with steps := s.steps + 1, frames := { f with pos := f.pos + 1 } :: rest } _
/-- the next instruction of a function under way -/
theorem ins_at {u : UniL} {m : Nat} {s : StL} (hok : StOk u s) (h : Seen u m s) {f : FrL} {rest : List FrL} (hs : s.frames = f :: rest) (hp : f.pos ≠ (topB u f).list.length) :
    (topB u f).list.getD f.pos noI ∈ (topB u f).list ∧ InsAt u m ((topB u f).list.getD f.pos noI) := by
  have hf := hok.frs f (by rw [hs]; exact List.mem_cons_self)
  have hlt : f.pos < (topB u f).list.length := by have := hf.pos; omega
  have hm := getD_mem (d := noI) hlt
  have e : topB u f = (fnU u f.fn).blocks[f.block]'hf.block := by unfold topB; exact blF_get hf.block
  exact ⟨hm, f.fn, hf.fn, h.frs f (by rw [hs]; exact List.mem_cons_self), topB u f, by rw [e]; exact List.getElem_mem _, hm⟩
theorem InsAt.call {u : UniL} (hu : UOk u) {m : Nat} {x : InsL} (h : InsAt u m x) : x.op = 20 → ReachU u m x.fn.toNat := fun h20 => by
  obtain ⟨k, hk, hr, b, hb, hx⟩ := h
  obtain ⟨_, hz, _⟩ := hu.fn hk
  obtain ⟨i, hi, rfl⟩ := List.mem_iff_getElem.1 hb
  exact reach_call hr hk (List.getElem_mem hi) hx h20 ((insL_zero ((bodyE_blk hz hi).2 x hx)).call h20).1
theorem seen_step {u : UniL} (hu : UOk u) {m : Nat} {s : StL} (hok : StOk u s) (h : Seen u m s) : Seen u m (stepS u s).1 := by
  unfold stepS
  cases hs : s.frames with
  | nil => exact h
  | cons f rest =>
    simp only
    split
    · exact seen_end (s := { s with steps := s.steps + 1, frames := f :: rest }) ⟨fun g hg => h.frs g (by rw [hs]; exact hg), h.cnt⟩ _
    · rename_i hp
      refine seen_ins (s := { s with steps := s.steps + 1, frames := { f with pos := f.pos + 1 } :: rest }) ⟨fun g hg => ?_, h.cnt⟩ ((ins_at hok h hs hp).2.call hu)
      rcases List.mem_cons.1 hg with e | e
      · rw [e]; exact h.frs f (by rw [hs]; exact List.mem_cons_self)
      · exact h.frs g (by rw [hs]; exact List.mem_cons_of_mem _ e)
/-- what holds at the start and is kept by each step holds at the end -/
theorem go_inv {u : UniL} (hu : UOk u) {m : Nat} (P : StL → Prop) (hung : ∀ s, P s → P { s with state := 1 })
    (hend : ∀ s f rest, StOk u s → Seen u m s → s.frames = f :: rest → f.pos = (topB u f).list.length → P s → P (endS u { s with steps := s.steps + 1 } (topB u f).fin).1)
    (hins : ∀ s f rest x, StOk u s → Seen u m s → s.frames = f :: rest → f.pos ≠ (topB u f).list.length → x = (topB u f).list.getD f.pos noI → x ∈ (topB u f).list → InsAt u m x → P s → P (insS u { s with steps := s.steps + 1, frames := { f with pos := f.pos + 1 } :: rest } x).1) :
    ∀ n s, StOk u s → Seen u m s → P s → P (goS u n s)
  | 0, s, _, _, hP => hung s hP
  | n + 1, s, hok, hse, hP => by
    have hst : P (stepS u s).1 := by
      unfold stepS
      cases hs : s.frames with
      | nil => exact hP
      | cons f rest =>
        simp only
        split
        · rename_i hp
          rw [← hs]
          exact hend s f rest hok hse hs hp hP
        · rename_i hp
          obtain ⟨h1, h2⟩ := ins_at hok hse hs hp
          exact hins s f rest _ hok hse hs hp rfl h1 h2 hP
    unfold goS
    split
    · exact go_inv hu P hung hend hins n _ (step_ok hu hok) (seen_step hu hok hse) hst
    · exact hst
theorem start_seen {u : UniL} (inp : List Int) {m : Nat} : Seen u m (startS u inp m) :=
  Seen.enter ⟨fun g hg => absurd hg (by simp), fun k b h => absurd rfl h⟩ (.refl m) _ _
theorem mainI_get {u : UniL} (h : ChkOk u) : ∃ m, mainI u.funcs = some m ∧ m < u.funcs.length := by
  obtain ⟨m, hm, _⟩ := h.main
  exact ⟨m, hm, mainI_lt hm⟩
/-- the like of a whole run -/
theorem run_inv {u : UniL} (hu : UOk u) {m : Nat} (hm : mainI u.funcs = some m) (P : StL → Prop) {inp : List Int} (hi : ∀ x ∈ inp, I64 x) (hstart : P (startS u inp m)) (hung : ∀ s, P s → P { s with state := 1 })
    (hend : ∀ s f rest, StOk u s → Seen u m s → s.frames = f :: rest → f.pos = (topB u f).list.length → P s → P (endS u { s with steps := s.steps + 1 } (topB u f).fin).1)
    (hins : ∀ s f rest x, StOk u s → Seen u m s → s.frames = f :: rest → f.pos ≠ (topB u f).list.length → x = (topB u f).list.getD f.pos noI → x ∈ (topB u f).list → InsAt u m x → P s → P (insS u { s with steps := s.steps + 1, frames := { f with pos := f.pos + 1 } :: rest } x).1) (fuel : Nat) : P (runU u inp fuel) := by
  unfold runU
  rw [hm]
  exact go_inv hu P hung hend hins fuel _ (start_ok hu hi (mainI_lt hm)) (start_seen inp) hstart
theorem go_seen {u : UniL} (hu : UOk u) {m : Nat} : ∀ n s, StOk u s → Seen u m s → Seen u m (goS u n s)
  | 0, s, _, h => ⟨h.frs, h.cnt⟩
  | n + 1, s, hok, h => by
    unfold goS
    split
    · exact go_seen hu n _ (step_ok hu hok) (seen_step hu hok h)
    · exact seen_step hu hok h
/-- a block of a function that main does not reach is never come to -/
theorem run_never {u : UniL} (hu : UOk u) {m : Nat} (hm : mainI u.funcs = some m) {inp : List Int} (hi : ∀ x ∈ inp, I64 x) (fuel : Nat) {k : Nat} (hk : k < u.funcs.length) (h : tableU u.funcs m k = false) (b : Nat) : (runU u inp fuel).cnt k b = 0 := by
  have h1 : Seen u m (runU u inp fuel) := by
    unfold runU
    rw [hm]
    exact go_seen hu fuel _ (start_ok hu hi (mainI_lt hm)) (start_seen inp)
  rcases Decidable.em ((runU u inp fuel).cnt k b = 0) with e | e
  · exact e
  · have := (table_path _ (mainI_lt hm) hk).2 (h1.cnt k b e)
    rw [h] at this
    cases this
end Go.Proofs.YtdjamkinijhjoaaDoor
namespace Go.Proofs.YtdjamkinijhjoaaDoor
open Go.RowKit

/-- bits as a number -/
def maskN : Nat → (Nat → Bool) → Nat
  | 0, _ => 0
  | n + 1, b => (b 0).toNat + 2 * maskN n fun i => b (i + 1)
theorem maskN_lt : ∀ n b, maskN n b < 2 ^ n
  | 0, b => by simp [maskN]
  | n + 1, b => by
    have := maskN_lt n fun i => b (i + 1)
    have h2 : (b 0).toNat ≤ 1 := by cases b 0 <;> simp
    unfold maskN
    rw [Nat.pow_succ]
    omega
theorem maskN_bit : ∀ n b i, (maskN n b).testBit i = (decide (i < n) && b i)
  | 0, b, i => by simp [maskN]
  | n + 1, b, 0 => by
    unfold maskN
    rw [Nat.testBit_zero]
    cases b 0 <;> simp
  | n + 1, b, i + 1 => by
    unfold maskN
    have e : ((b 0).toNat + 2 * maskN n fun i => b (i + 1)) / 2 = maskN n fun i => b (i + 1) := by
      have h2 : (b 0).toNat ≤ 1 := by cases b 0 <;> simp
      omega
    rw [Nat.testBit_succ, e, maskN_bit n]
    have : decide (i + 1 < n + 1) = decide (i < n) := by rw [decide_eq_decide]; omega
    rw [this]
theorem maskN_or (n : Nat) (a b : Nat → Bool) : maskN n a ||| maskN n b = maskN n fun i => a i || b i :=
  Nat.eq_of_testBit_eq fun i => by
    rw [Nat.testBit_or, maskN_bit, maskN_bit, maskN_bit]
    cases decide (i < n) <;> simp
theorem maskN_and (n : Nat) (a b : Nat → Bool) : maskN n a &&& maskN n b = maskN n fun i => a i && b i :=
  Nat.eq_of_testBit_eq fun i => by
    rw [Nat.testBit_and, maskN_bit, maskN_bit, maskN_bit]
    cases decide (i < n) <;> simp
theorem maskN_eq {n : Nat} {a b : Nat → Bool} : maskN n a = maskN n b ↔ ∀ i, i < n → a i = b i := by
  constructor
  · intro h i hi
    have h1 := maskN_bit n a i
    rw [h, maskN_bit] at h1
    simpa [hi] using h1.symm
  · intro h
    refine Nat.eq_of_testBit_eq fun i => ?_
    rw [maskN_bit, maskN_bit]
    by_cases hi : i < n
    · rw [h i hi]
    · simp [hi]
/-- seven of them, as Go's int -/
def maskI (b : Nat → Bool) : Int := (maskN 7 b : Nat)
theorem maskI_lt (b : Nat → Bool) : 0 ≤ maskI b ∧ maskI b < 128 := by
  have := maskN_lt 7 b
  unfold maskI
  omega
theorem maskI_eq {a b : Nat → Bool} : maskI a = maskI b ↔ ∀ i, i < 7 → a i = b i := by
  unfold maskI
  rw [← maskN_eq]
  omega
theorem maskI_congr {a b : Nat → Bool} (h : ∀ i, i < 7 → a i = b i) : maskI a = maskI b := maskI_eq.2 h
theorem wraps_i64 (n : Int) (h₀ : 0 ≤ n) (h₁ : n < 2 ^ 7) : IntKind.i64.wrap n = n := by rw [IntKind.wrap_i64]; omega
theorem or_mask (a b : Nat → Bool) : bits .or .i64 (maskI a) (maskI b) = maskI fun i => a i || b i := by
  unfold maskI
  rw [(bits_nat .i64 7 (by decide) wraps_i64 _ _ (maskN_lt 7 a) (maskN_lt 7 b)).2, maskN_or]
theorem and_mask (a b : Nat → Bool) : bits .and .i64 (maskI a) (maskI b) = maskI fun i => a i && b i := by
  unfold maskI
  rw [(bits_nat .i64 7 (by decide) wraps_i64 _ _ (maskN_lt 7 a) (maskN_lt 7 b)).1, maskN_and]
/-- a bit alone -/
def bitB (k : Nat) : Nat → Bool := fun i => i == k
theorem bit0 : maskI (bitB 0) = 1 := rfl
theorem bit1 : maskI (bitB 1) = 2 := rfl
theorem bit2 : maskI (bitB 2) = 4 := rfl
theorem bit3 : maskI (bitB 3) = 8 := rfl
theorem bit4 : maskI (bitB 4) = 16 := rfl
theorem bit5 : maskI (bitB 5) = 32 := rfl
theorem bit6 : maskI (bitB 6) = 64 := rfl
theorem bit56 : maskI (fun i => bitB 5 i || bitB 6 i) = 96 := rfl
theorem mask_zero : maskI (fun _ => false) = 0 := rfl
/-- a bit asked for -/
theorem and_bit (b : Nat → Bool) (k : Nat) (hk : k < 7) : bits .and .i64 (maskI b) (maskI (bitB k)) = 0 ↔ b k = false := by
  rw [and_mask, ← mask_zero, maskI_eq]
  constructor
  · intro h
    have := h k hk
    simpa [bitB] using this
  · intro h i _
    by_cases e : i = k
    · subst e; simp [h]
    · simp [bitB, e]

/-- one block leads to another one -/
def wayB (f : FunL) (a b : Nat) : Bool := match f.blocks[a]? with | some x => x.fin.to.any fun t => t == (b : Int) | none => false
def wayP (f : FunL) (a b : Nat) : Prop := wayB f a b = true
def wayT (f : FunL) : Tab := fun a b => a == b || wayB f a b
/-- by one way or more -/
def plusB (f : FunL) (a c : Nat) : Bool := (List.range f.blocks.length).any fun t => wayB f a t && viaT (wayT f) f.blocks.length t c
theorem via_way (f : FunL) {a b : Nat} (ha : a < f.blocks.length) (hb : b < f.blocks.length) : viaT (wayT f) f.blocks.length a b = true ↔ Path f.blocks.length (wayP f) a b := by
  constructor
  · refine viaT_path (fun a b _ hb h => ?_) _ _ _ (Nat.le_refl _) ha hb
    unfold wayT at h
    rw [Bool.or_eq_true] at h
    rcases h with h | h
    · have : a = b := by simpa using h
      subst this
      exact .refl _
    · exact .step (.refl _) h hb
  · intro h
    refine (path_viaT (fun a _ => ?_) (fun a b _ _ h => ?_) ha h).2
    · unfold wayT; simp
    · unfold wayT
      rw [Bool.or_eq_true]
      exact .inr h
theorem plus_iff {f : FunL} {a c : Nat} (hc : c < f.blocks.length) : plusB f a c = true ↔ ∃ t, t < f.blocks.length ∧ wayB f a t = true ∧ Path f.blocks.length (wayP f) t c := by
  unfold plusB
  rw [List.any_eq_true]
  constructor
  · rintro ⟨t, ht, h⟩
    rw [Bool.and_eq_true] at h
    have ht2 := List.mem_range.1 ht
    exact ⟨t, ht2, h.1, (via_way f ht2 hc).1 h.2⟩
  · rintro ⟨t, ht, h1, h2⟩
    refine ⟨t, List.mem_range.2 ht, ?_⟩
    rw [Bool.and_eq_true]
    exact ⟨h1, (via_way f ht hc).2 h2⟩
theorem plus_one {f : FunL} {a t : Nat} (ht : t < f.blocks.length) (h : wayB f a t = true) : plusB f a t = true := (plus_iff ht).2 ⟨t, ht, h, .refl _⟩
theorem path_head {n : Nat} {E : Nat → Nat → Prop} {a b c : Nat} (h : E a b) (hb : b < n) (p : Path n E b c) : Path n E a c := (Path.step (.refl _) h hb).trans p
theorem plus_trans {f : FunL} {a t c : Nat} (hc : c < f.blocks.length) (ht : t < f.blocks.length) (h : wayB f a t = true) (h2 : plusB f t c = true) : plusB f a c = true := by
  obtain ⟨s, hs, h3, h4⟩ := (plus_iff hc).1 h2
  exact (plus_iff hc).2 ⟨t, ht, h, path_head h3 hs h4⟩
/-- some block leads to itself -/
def roundB (f : FunL) : Bool := (List.range f.blocks.length).any fun a => plusB f a a
theorem round_no {f : FunL} (h : roundB f = false) {a : Nat} (ha : a < f.blocks.length) : plusB f a a = false := by
  cases e : plusB f a a with
  | false => rfl
  | true =>
    have : roundB f = true := List.any_eq_true.2 ⟨a, List.mem_range.2 ha, e⟩
    rw [h] at this
    cases this

/-- what an instruction does, bit by bit -/
def insBit (words : Int) (x : InsL) (i : Nat) : Bool :=
  if i = 0 then x.op == 21 else if i = 1 then x.op == 22 else if i = 2 then x.op == 18 else if i = 3 then x.op == 19 else if i = 4 then mayB x.op x.an x.bn x.ar x.br words else if i = 5 then x.op == 20 else false
def allB (f : FunL) (words : Int) (i : Nat) : Bool := f.blocks.any fun b => b.list.any fun x => insBit words x i
/-- a function calls one of its own ring -/
def ringB (u : UniL) (k : Nat) : Bool := (List.range u.funcs.length).any fun x => callsB (fnU u k) (x : Int) && ringN u.funcs.length (tableU u.funcs) x == ringN u.funcs.length (tableU u.funcs) k
/-- what a function does by itself -/
def ownB (u : UniL) (k i : Nat) : Bool := if i = 6 then roundB (fnU u k) || ringB u k else allB (fnU u k) (wordsU u) i
/-- with all that it calls -/
def maskB (u : UniL) (k i : Nat) : Bool := (List.range u.funcs.length).any fun x => tableU u.funcs k x && ownB u x i
def pureL (u : UniL) : List Int := (List.range u.funcs.length).map fun k => maskI (maskB u k)
theorem pureL_len (u : UniL) : (pureL u).length = u.funcs.length := by simp [pureL]
theorem pureL_get {u : UniL} {k : Nat} (h : k < (pureL u).length) : (pureL u)[k] = maskI (maskB u k) := by simp [pureL]

end Go.Proofs.YtdjamkinijhjoaaDoor
namespace Go.Proofs.YtdjamkinijhjoaaDoor
open Go.RowKit

theorem table_mask {u : UniL} {m k i : Nat} (hm : m < u.funcs.length) (hk : k < u.funcs.length) (hr : ReachU u m k) (h : maskB u m i = false) : ownB u k i = false := by
  cases e : ownB u k i with
  | false => rfl
  | true =>
    have : maskB u m i = true := List.any_eq_true.2 ⟨k, List.mem_range.2 hk, by rw [(table_path _ hm hk).2 hr, e]; rfl⟩
    rw [h] at this
    cases this
/-- what main may not do, no instruction does that is come to -/
theorem InsAt.bit {u : UniL} {m i : Nat} (hm : m < u.funcs.length) {x : InsL} (hx : InsAt u m x) (h : maskB u m i = false) (hi : i ≠ 6) : insBit (wordsU u) x i = false := by
  obtain ⟨k, hk, hr, b, hb, hx⟩ := hx
  have h1 := table_mask hm hk hr h
  unfold ownB at h1
  rw [if_neg hi] at h1
  cases e : insBit (wordsU u) x i with
  | false => rfl
  | true =>
    have : allB (fnU u k) (wordsU u) i = true := List.any_eq_true.2 ⟨b, hb, List.any_eq_true.2 ⟨x, hx, e⟩⟩
    rw [h1] at this
    cases this

/-- who may not print prints nothing -/
theorem silent_run {u : UniL} (hu : UOk u) {m : Nat} (hm : mainI u.funcs = some m) {inp : List Int} (hi : ∀ x ∈ inp, I64 x) (h : maskB u m 1 = false) (fuel : Nat) : (runU u inp fuel).outs = [] ∧ (runU u inp fuel).state ≠ 5 := by
  refine run_inv hu hm (fun s => s.outs = [] ∧ s.state ≠ 5) hi ⟨rfl, by show (0 : Int) ≠ 5; omega⟩ (fun s hP => ⟨hP.1, by show (1 : Int) ≠ 5; omega⟩) (fun s f rest _ _ hs _ hP => ?_) (fun s f rest x _ _ hs _ _ _ hx hP => ?_) fuel
  · obtain ⟨_, _, h3, _, h5⟩ := end_keeps u { s with steps := s.steps + 1 } (topB u f).fin
    refine ⟨h3.trans hP.1, ?_⟩
    rcases h5 with e | e
    · rw [e]; exact hP.2
    · rw [e]; omega
  · have h1 := hx.bit (mainI_lt hm) h (by omega)
    have h22 : x.op ≠ 22 := by
      unfold insBit at h1
      simpa using h1
    have hst : ∀ n : Int, n ≠ 5 → (n ≠ 5) := fun _ h => h
    obtain ⟨s', hs'⟩ : ∃ s', s' = ({ s with steps := s.steps + 1, frames := { f with pos := f.pos + 1 } :: rest } : StL) := ⟨_, rfl⟩
    rw [← hs']
    have hP' : s'.outs = [] ∧ s'.state ≠ 5 := by rw [hs']; exact hP
    have hput : ∀ t : StL, t.outs = [] → t.state ≠ 5 → ∀ d n, (putS t d n).outs = [] ∧ (putS t d n).state ≠ 5 := fun t a b d n => by
      have := putS_alike t d n
      exact ⟨this.outs.trans a, by rw [this.state]; exact b⟩
    unfold insS
    split
    · split
      · exact ⟨hP'.1, by show (3 : Int) ≠ 5; omega⟩
      split
      · exact hP'
      · exact hput _ hP'.1 hP'.2 _ _
    split
    · split
      · exact ⟨hP'.1, by show (4 : Int) ≠ 5; omega⟩
      · exact hP'
    split
    · split
      · exact hput _ hP'.1 hP'.2 _ _
      · rename_i n l _
        exact hput { s' with inp := l } hP'.1 hP'.2 _ _
    try rw [if_neg h22]
    split
    · exact ⟨hP'.1, by show (2 : Int) ≠ 5; omega⟩
    · exact hput _ hP'.1 hP'.2 _ _

theorem memU_len {u : UniL} (h : ChkOk u) : ((memU u).length : Int) = wordsU u := by
  have h1 : ∀ k, k ≤ u.globals.length → (((u.globals.take k).flatMap memG).length : Int) = wordsTo u k := by
    intro k
    induction k with
    | zero => intro _; simp [wordsTo]
    | succ k ih =>
      intro hk
      have h1 := gloE_zero ((gloI_eq (by omega)).symm.trans (h.glo k (by omega)))
      rw [wordsTo_succ (by omega), ← ih (by omega), List.take_succ_eq_append_getElem (by omega), List.flatMap_append]
      simp [memG]
      omega
  have h2 := h1 _ (Nat.le_refl _)
  rw [List.take_length] at h2
  exact h2
theorem twoL_fine {op a b : Int} (h : (op = 5 ∨ op = 6) → b ≠ 0) : (twoL op a b).2 = true := by
  unfold twoL
  by_cases h5 : op = 5
  · subst h5; simp [h (.inl rfl)]
  by_cases h6 : op = 6
  · subst h6; simp [h (.inr rfl)]
  simp only [apply_ite Prod.snd, if_neg h5, if_neg h6, ite_self]
/-- who may not trap traps not -/
theorem safe_run {u : UniL} (hu : UOk u) {m : Nat} (hm : mainI u.funcs = some m) {inp : List Int} (hi : ∀ x ∈ inp, I64 x) (h : maskB u m 4 = false) (fuel : Nat) : (runU u inp fuel).state ≠ 2 ∧ (runU u inp fuel).state ≠ 3 := by
  have hw := memU_len hu.chk
  refine (run_inv hu hm (fun s => s.mem.length = (memU u).length ∧ s.state ≠ 2 ∧ s.state ≠ 3) hi ⟨rfl, by show (0 : Int) ≠ 2; omega, by show (0 : Int) ≠ 3; omega⟩ (fun s hP => ⟨hP.1, by show (1 : Int) ≠ 2; omega, by show (1 : Int) ≠ 3; omega⟩) (fun s f rest _ _ hs _ hP => ?_) (fun s f rest x _ _ hs _ _ _ hx hP => ?_) fuel).2
  · obtain ⟨h3, _, _, _, h5⟩ := end_keeps u { s with steps := s.steps + 1 } (topB u f).fin
    refine ⟨by rw [h3]; exact hP.1, ?_⟩
    rcases h5 with e | e
    · rw [e]; exact hP.2
    · rw [e]; omega
  · have h1 := hx.bit (mainI_lt hm) h (by omega)
    have h1 : mayB x.op x.an x.bn x.ar x.br (wordsU u) = false := by
      unfold insBit at h1
      simpa using h1
    obtain ⟨s', hs'⟩ : ∃ s', s' = ({ s with steps := s.steps + 1, frames := { f with pos := f.pos + 1 } :: rest } : StL) := ⟨_, rfl⟩
    rw [← hs']
    have hP' : s'.mem.length = (memU u).length ∧ s'.state ≠ 2 ∧ s'.state ≠ 3 := by rw [hs']; exact hP
    have hput : ∀ t : StL, t.mem.length = (memU u).length → t.state = s'.state → ∀ d n, (putS t d n).mem.length = (memU u).length ∧ (putS t d n).state ≠ 2 ∧ (putS t d n).state ≠ 3 := fun t a b d n => by
      have := putS_alike t d n
      rw [this.mem, this.state, b]
      exact ⟨a, hP'.2⟩
    unfold insS
    by_cases hl : x.op = 18 ∨ x.op = 19
    · rw [if_pos hl]
      have hm : x.ar = false ∧ 0 ≤ x.an ∧ x.an < wordsU u := by
        unfold mayB at h1
        rw [if_neg (by omega), if_pos hl] at h1
        simp only [Bool.or_eq_false_iff, decide_eq_false_iff_not] at h1
        exact ⟨h1.1.1, by omega, by omega⟩
      have hv : valL (topR s') x.ar x.an = x.an := by unfold valL; simp [hm.1]
      rw [hv, if_neg (by rw [hP'.1]; omega)]
      split
      · exact ⟨by simp [hP'.1], hP'.2⟩
      · exact hput _ hP'.1 rfl _ _
    rw [if_neg hl]
    split
    · split
      · exact ⟨hP'.1, by show (4 : Int) ≠ 2; omega, by show (4 : Int) ≠ 3; omega⟩
      · exact hP'
    split
    · split
      · exact hput _ hP'.1 rfl _ _
      · rename_i n l _
        exact hput { s' with inp := l } hP'.1 rfl _ _
    split
    · split
      · exact ⟨hP'.1, by show (5 : Int) ≠ 2; omega, by show (5 : Int) ≠ 3; omega⟩
      · exact hP'
    have hf : (twoL x.op (valL (topR s') x.ar x.an) (valL (topR s') x.br x.bn)).2 = true := by
      refine twoL_fine fun hd => ?_
      unfold mayB at h1
      rw [if_pos hd] at h1
      simp only [Bool.or_eq_false_iff, beq_eq_false_iff_ne] at h1
      unfold valL
      rw [h1.1]
      simpa using h1.2
    rw [hf, if_neg (by simp)]
    exact hput _ hP'.1 rfl _ _

/-- who calls nobody is never too deep -/
theorem flat_run {u : UniL} (hu : UOk u) {m : Nat} (hm : mainI u.funcs = some m) {inp : List Int} (hi : ∀ x ∈ inp, I64 x) (h : maskB u m 5 = false) (fuel : Nat) : (runU u inp fuel).state ≠ 4 := by
  refine run_inv hu hm (fun s => s.state ≠ 4) hi (by show (0 : Int) ≠ 4; omega) (fun s hP => by show (1 : Int) ≠ 4; omega) (fun s f rest _ _ hs _ hP => ?_) (fun s f rest x _ _ hs _ _ _ hx hP => ?_) fuel
  · obtain ⟨_, _, _, _, h5⟩ := end_keeps u { s with steps := s.steps + 1 } (topB u f).fin
    rcases h5 with e | e
    · rw [e]; exact hP
    · rw [e]; omega
  · have h1 := hx.bit (mainI_lt hm) h (by omega)
    have h20 : x.op ≠ 20 := by
      unfold insBit at h1
      simpa using h1
    obtain ⟨s', hs'⟩ : ∃ s', s' = ({ s with steps := s.steps + 1, frames := { f with pos := f.pos + 1 } :: rest } : StL) := ⟨_, rfl⟩
    rw [← hs']
    have hP' : s'.state ≠ 4 := by rw [hs']; exact hP
    have hput : ∀ t : StL, t.state = s'.state → ∀ d n, (putS t d n).state ≠ 4 := fun t b d n => by
      have := putS_alike t d n
      rw [this.state, b]
      exact hP'
    unfold insS
    split
    · split
      · show (3 : Int) ≠ 4; omega
      split
      · exact hP'
      · exact hput _ rfl _ _
    try rw [if_neg h20]
    split
    · split
      · exact hput _ rfl _ _
      · rename_i n l _
        exact hput { s' with inp := l } rfl _ _
    split
    · split
      · show (5 : Int) ≠ 4; omega
      · exact hP'
    split
    · show (2 : Int) ≠ 4; omega
    · exact hput _ rfl _ _

/-- with another input -/
def reI (s : StL) (l : List Int) : StL := { s with inp := l }
theorem reI_put (s : StL) (l : List Int) (d n : Int) : putS (reI s l) d n = reI (putS s d n) l := by
  cases hs : s.frames with
  | nil => rw [putS_nil (s := reI s l) hs, putS_nil hs]
  | cons f rest => rw [putS_eq (s := reI s l) hs, putS_eq hs]; rfl
theorem reI_jump (u : UniL) (s : StL) (l : List Int) (t : Nat) : jumpS u (reI s l) t = reI (jumpS u s t) l := by
  cases hs : s.frames with
  | nil => rw [jumpS_nil (s := reI s l) hs, jumpS_nil hs]
  | cons f rest => rw [jumpS_eq (s := reI s l) hs, jumpS_eq hs]; rfl
theorem reI_end (u : UniL) (s : StL) (l : List Int) (e : EndL) : endS u (reI s l) e = (reI (endS u s e).1 l, (endS u s e).2) := by
  unfold endS
  rw [show topR (reI s l) = topR s from rfl, show (reI s l).frames = s.frames from rfl, reI_jump, reI_jump]
  by_cases h2 : e.kind = 2
  · rw [if_pos h2, if_pos h2]
  rw [if_neg h2, if_neg h2]
  by_cases h3 : e.kind = 3
  · rw [if_pos h3, if_pos h3]
  rw [if_neg h3, if_neg h3]
  cases hs : s.frames with
  | nil => rfl
  | cons f rest =>
    cases rest with
    | nil => rfl
    | cons g rest =>
      simp only
      rw [← reI_put]
      rfl
theorem reI_ins (u : UniL) (s : StL) (l : List Int) {x : InsL} (h : x.op ≠ 21) : insS u (reI s l) x = (reI (insS u s x).1 l, (insS u s x).2) := by
  unfold insS
  rw [show topR (reI s l) = topR s from rfl, show (reI s l).mem = s.mem from rfl, show (reI s l).frames = s.frames from rfl, show (reI s l).outs = s.outs from rfl]
  simp only [reI_put]
  rw [if_neg h, if_neg h]
  repeat' split
  all_goals rfl
theorem reI_step {u : UniL} {s : StL} (l : List Int) (h : ∀ f rest, s.frames = f :: rest → f.pos ≠ (topB u f).list.length → ((topB u f).list.getD f.pos noI).op ≠ 21) : stepS u (reI s l) = (reI (stepS u s).1 l, (stepS u s).2) := by
  unfold stepS
  rw [show (reI s l).frames = s.frames from rfl]
  cases hs : s.frames with
  | nil => rfl
  | cons f rest =>
    simp only
    by_cases hp : f.pos = (topB u f).list.length
    · rw [if_pos hp, if_pos hp]
      exact reI_end u { s with steps := s.steps + 1, frames := f :: rest } l _
    · rw [if_neg hp, if_neg hp]
      exact reI_ins u { s with steps := s.steps + 1, frames := { f with pos := f.pos + 1 } :: rest } l (h f rest hs hp)
theorem reI_go {u : UniL} (hu : UOk u) {m : Nat} (hm : m < u.funcs.length) (h : maskB u m 0 = false) (l : List Int) : ∀ n s, StOk u s → Seen u m s → goS u n (reI s l) = reI (goS u n s) l
  | 0, s, _, _ => rfl
  | n + 1, s, hok, hse => by
    unfold goS
    rw [reI_step l (fun f rest hs hp => ?_)]
    · split
      · exact reI_go hu hm h l n _ (step_ok hu hok) (seen_step hu hok hse)
      · rfl
    · have h1 := (ins_at hok hse hs hp).2.bit hm h (by omega)
      unfold insBit at h1
      simpa using h1
/-- to whom nothing is read all inputs are one -/
theorem deaf_run {u : UniL} (hu : UOk u) {m : Nat} (hm : mainI u.funcs = some m) {inp : List Int} (hi : ∀ x ∈ inp, I64 x) (h : maskB u m 0 = false) (inp' : List Int) (fuel : Nat) : runU u inp' fuel = reI (runU u inp fuel) inp' := by
  unfold runU
  rw [hm]
  exact reI_go hu (mainI_lt hm) h inp' fuel _ (start_ok hu hi (mainI_lt hm)) (start_seen inp)

/-- the sum of so many -/
def sumTo (g : Nat → Nat) : Nat → Nat
  | 0 => 0
  | n + 1 => sumTo g n + g n
theorem sumTo_le {g g' : Nat → Nat} : ∀ n, (∀ i, i < n → g i ≤ g' i) → sumTo g n ≤ sumTo g' n
  | 0, _ => Nat.le_refl _
  | n + 1, h => Nat.add_le_add (sumTo_le n fun i hi => h i (by omega)) (h n (by omega))
theorem sumTo_add (g g' : Nat → Nat) : ∀ n, sumTo (fun i => g i + g' i) n = sumTo g n + sumTo g' n
  | 0 => rfl
  | n + 1 => by
    show sumTo _ n + (g n + g' n) = (sumTo g n + g n) + (sumTo g' n + g' n)
    rw [sumTo_add g g' n]
    omega
theorem sumTo_zero : ∀ n, sumTo (fun _ => 0) n = 0
  | 0 => rfl
  | n + 1 => sumTo_zero n
theorem sumTo_one (t a : Nat) : ∀ n, sumTo (fun i => if i = t then a else 0) n = if t < n then a else 0
  | 0 => by simp [sumTo]
  | n + 1 => by
    show sumTo _ n + (if n = t then a else 0) = _
    rw [sumTo_one t a n]
    by_cases h : n = t
    · subst h; simp
    · rw [if_neg h]
      by_cases h2 : t < n
      · rw [if_pos h2, if_pos (by omega)]; omega
      · rw [if_neg h2, if_neg (by omega)]
/-- how many steps a block takes -/
def lenB (f : FunL) (b : Nat) : Nat := (blF f b).list.length + 1
/-- how many the blocks take that a block leads to -/
def afterB (f : FunL) (b : Nat) : Nat := sumTo (fun c => if plusB f b c = true then lenB f c else 0) f.blocks.length
theorem after_way {f : FunL} (h : roundB f = false) {b t : Nat} (ht : t < f.blocks.length) (hw : wayB f b t = true) : afterB f t + lenB f t ≤ afterB f b := by
  have e := sumTo_one t (lenB f t) f.blocks.length
  rw [if_pos ht] at e
  unfold afterB
  rw [← e, ← sumTo_add]
  refine sumTo_le _ fun c hc => ?_
  by_cases hct : c = t
  · subst hct
    rw [round_no h hc, if_neg (by simp), if_pos rfl, plus_one hc hw, if_pos rfl]
    omega
  · rw [if_neg hct]
    by_cases hp : plusB f t c = true
    · rw [if_pos hp, if_pos (plus_trans hc ht hw hp)]
      exact Nat.le_refl _
    · rw [if_neg hp]
      omega
theorem after_all {f : FunL} (h : roundB f = false) {b : Nat} (hb : b < f.blocks.length) : afterB f b + lenB f b ≤ sumTo (lenB f) f.blocks.length := by
  have e := sumTo_one b (lenB f b) f.blocks.length
  rw [if_pos hb] at e
  unfold afterB
  rw [← e, ← sumTo_add]
  refine sumTo_le _ fun c hc => ?_
  by_cases hcb : c = b
  · subst hcb
    rw [round_no h hc, if_neg (by simp), if_pos rfl]
    omega
  · rw [if_neg hcb]
    split <;> omega
theorem sum_blocks (f : FunL) : ∀ k, k ≤ f.blocks.length → sumTo (lenB f) k ≤ ((f.blocks.take k).map fun b => b.phis.length + b.list.length).sum + k
  | 0, _ => Nat.zero_le _
  | k + 1, h => by
    have h1 := sum_blocks f k (by omega)
    rw [List.take_succ_eq_append_getElem (by omega), List.map_append, List.sum_append]
    simp only [List.map_cons, List.map_nil, List.sum_cons, List.sum_nil]
    show sumTo (lenB f) k + ((blF f k).list.length + 1) ≤ _
    rw [blF_get (by omega)]
    omega
theorem sum_many (f : FunL) : sumTo (lenB f) f.blocks.length ≤ manyL f + f.blocks.length := by
  have h := sum_blocks f f.blocks.length (Nat.le_refl _)
  rw [List.take_length] at h
  exact h
/-- how many steps a function under way takes still -/
def remF (u : UniL) (f : FrL) : Nat := (topB u f).list.length + 1 - f.pos + afterB (fnU u f.fn) f.block
theorem short_go {u : UniL} (hu : UOk u) {m : Nat} (hm : m < u.funcs.length) (h5 : maskB u m 5 = false) (h6 : roundB (fnU u m) = false) (T : Nat) : ∀ n s f, StOk u s → Seen u m s → s.frames = [f] → f.fn = m → s.steps + remF u f ≤ T → T ≤ n + s.steps → s.state = 0 → (goS u n s).state ≠ 1 ∧ (goS u n s).steps ≤ T
  | 0, s, f, hok, _, hs, hfn, h1, h2, _ => by
    have hf := hok.frs f (by rw [hs]; simp)
    have := hf.pos
    unfold remF at h1
    omega
  | n + 1, s, f, hok, hse, hs, hfn, h1, h2, h3 => by
    have hf := hok.frs f (by rw [hs]; simp)
    have hpos := hf.pos
    have hok' := step_ok hu hok
    have hse' := seen_step hu hok hse
    obtain ⟨s', b, e⟩ : ∃ s' b, stepS u s = (s', b) := ⟨_, _, rfl⟩
    rw [e] at hok' hse'
    unfold goS
    rw [e]
    have hE := e
    unfold stepS at hE
    rw [hs] at hE
    simp only at hE
    by_cases hp : f.pos = (topB u f).list.length
    · rw [if_pos hp] at hE
      have hEn := (hu.fin hf).1
      have hjump : ∀ t : Int, t ∈ (topB u f).fin.to → jumpS u { s with frames := [f], steps := s.steps + 1 } t.toNat = s' → b = true → (goS u n s').state ≠ 1 ∧ (goS u n s').steps ≤ T := fun t ht hj hb => by
        obtain ⟨ht1, ht2⟩ := hEn.to t ht
        rw [jumpS_eq (s := { s with frames := [f], steps := s.steps + 1 }) rfl] at hj
        subst hj
        have hw : wayB (fnU u f.fn) f.block t.toNat = true := by
          unfold wayB
          rw [List.getElem?_eq_getElem hf.block]
          simp only
          rw [List.any_eq_true]
          have e : topB u f = (fnU u f.fn).blocks[f.block]'hf.block := by unfold topB; exact blF_get hf.block
          rw [e] at ht
          refine ⟨t, ht, ?_⟩
          rw [beq_iff_eq]
          omega
        have haw := after_way (f := fnU u f.fn) (by rw [hfn]; exact h6) (t := t.toNat) (by omega) hw
        refine short_go hu hm h5 h6 T n _ (jumpF u f t.toNat) hok' hse' rfl hfn ?_ (by show T ≤ n + (s.steps + 1); omega) h3
        show s.steps + 1 + remF u (jumpF u f t.toNat) ≤ T
        have hr : remF u (jumpF u f t.toNat) = lenB (fnU u f.fn) t.toNat + afterB (fnU u f.fn) t.toNat := by
          unfold remF lenB topB jumpF
          simp
        rw [hr]
        unfold remF at h1
        omega
      unfold endS at hE
      by_cases k2 : (topB u f).fin.kind = 2
      · rw [if_pos k2] at hE
        obtain ⟨hj, hb⟩ := Prod.mk.inj hE
        have hl := hEn.len
        have h0 : 0 < (topB u f).fin.to.length := by omega
        rw [if_pos hb.symm]
        exact hjump _ (getD_mem h0) hj hb.symm
      rw [if_neg k2] at hE
      by_cases k3 : (topB u f).fin.kind = 3
      · rw [if_pos k3] at hE
        obtain ⟨hj, hb⟩ := Prod.mk.inj hE
        have hl := hEn.len
        rw [if_pos hb.symm]
        refine hjump _ ?_ hj hb.symm
        split
        · exact getD_mem (by omega)
        · exact getD_mem (by omega)
      rw [if_neg k3] at hE
      simp only at hE
      obtain ⟨hj, hb⟩ := Prod.mk.inj hE
      rw [← hb, if_neg (by simp), ← hj]
      refine ⟨by show (0 : Int) ≠ 1; omega, ?_⟩
      show s.steps + 1 ≤ T
      unfold remF at h1
      omega
    · rw [if_neg hp] at hE
      obtain ⟨hmem, hx⟩ := ins_at hok hse hs hp
      have hb5 := hx.bit hm h5 (by omega)
      generalize (topB u f).list.getD f.pos noI = x at hE hmem hx hb5
      have h20 : x.op ≠ 20 := by
        unfold insBit at hb5
        simpa using hb5
      have hrem : ∀ g : FrL, g.fn = f.fn → g.block = f.block → g.pos = f.pos + 1 → s.steps + 1 + remF u g ≤ T := fun g a1 a2 a3 => by
        have : topB u g = topB u f := by unfold topB; rw [a1, a2]
        unfold remF at h1 ⊢
        rw [this, a1, a2, a3]
        omega
      have hstop : ∀ t : StL, (t, false) = (s', b) → t.state ≠ 1 → t.steps = s.steps + 1 → (if (s', b).2 = true then goS u n (s', b).1 else (s', b).1).state ≠ 1 ∧ (if (s', b).2 = true then goS u n (s', b).1 else (s', b).1).steps ≤ T := fun t a3 a1 a2 => by
        rw [← a3]
        simp only [Bool.false_eq_true, if_false]
        refine ⟨a1, ?_⟩
        rw [a2]
        unfold remF at h1
        omega
      have hgo : ∀ (t : StL) (g : FrL), (t, true) = (s', b) → t.frames = [g] → g.fn = f.fn → g.block = f.block → g.pos = f.pos + 1 → t.steps = s.steps + 1 → t.state = 0 → (if (s', b).2 = true then goS u n (s', b).1 else (s', b).1).state ≠ 1 ∧ (if (s', b).2 = true then goS u n (s', b).1 else (s', b).1).steps ≤ T := fun t g a7 a1 a2 a3 a4 a5 a6 => by
        rw [← a7]
        simp only [if_true]
        have e1 := (Prod.mk.inj a7).1
        rw [← e1] at hok' hse'
        exact short_go hu hm h5 h6 T n t g hok' hse' a1 (a2.trans hfn) (by rw [a5]; exact hrem g a2 a3 a4) (by rw [a5]; omega) a6
      have hput : ∀ (t : StL) (d k : Int), (putS t d k, true) = (s', b) → t.frames = [{ f with pos := f.pos + 1 }] → t.steps = s.steps + 1 → t.state = 0 → (if (s', b).2 = true then goS u n (s', b).1 else (s', b).1).state ≠ 1 ∧ (if (s', b).2 = true then goS u n (s', b).1 else (s', b).1).steps ≤ T := fun t d k a4 a1 a2 a3 => by
        rw [putS_eq a1] at a4
        exact hgo _ { f with pos := f.pos + 1, regs := setL f.regs d k } a4 rfl rfl rfl rfl a2 a3
      unfold insS at hE
      split at hE
      · split at hE
        · exact hstop _ hE (by show (3 : Int) ≠ 1; omega) rfl
        split at hE
        · exact hgo _ { f with pos := f.pos + 1 } hE rfl rfl rfl rfl rfl h3
        · exact hput _ _ _ hE rfl rfl h3
      try rw [if_neg h20] at hE
      split at hE
      · split at hE
        · exact hput _ _ _ hE rfl rfl h3
        · exact hput _ _ _ hE rfl rfl h3
      split at hE
      · split at hE
        · exact hstop _ hE (by show (5 : Int) ≠ 1; omega) rfl
        · exact hgo _ { f with pos := f.pos + 1 } hE rfl rfl rfl rfl rfl h3
      split at hE
      · exact hstop _ hE (by show (2 : Int) ≠ 1; omega) rfl
      · exact hput _ _ _ hE rfl rfl h3
/-- who goes not round, and calls nobody, is soon done -/
theorem short_run {u : UniL} (hu : UOk u) {m : Nat} (hm : mainI u.funcs = some m) {inp : List Int} (hi : ∀ x ∈ inp, I64 x) (h5 : maskB u m 5 = false) (h6 : maskB u m 6 = false) : (runU u inp 340).state ≠ 1 ∧ (runU u inp 340).steps ≤ manyL (fnU u m) + (fnU u m).blocks.length := by
  have hml := mainI_lt hm
  have hr : roundB (fnU u m) = false := by
    have h := table_mask hml hml (.refl m) h6
    unfold ownB at h
    rw [if_pos rfl, Bool.or_eq_false_iff] at h
    exact h.1
  obtain ⟨_, _, hb1, hb2, hr0, _, hmany⟩ := hu.fn hml
  have hall := after_all hr (b := 0) (by omega)
  have hsum := sum_many (fnU u m)
  unfold runU
  rw [hm]
  have h := short_go hu hml h5 hr (sumTo (lenB (fnU u m)) (fnU u m).blocks.length) 340 (startS u inp m) ⟨m, 0, 0, [] ++ List.replicate ((fnU u m).regs.toNat - ([] : List Int).length) 0, -1⟩ (start_ok hu hi hml) (start_seen inp) rfl rfl ?_ ?_ rfl
  · exact ⟨h.1, Nat.le_trans h.2 hsum⟩
  · show 0 + remF u _ ≤ _
    unfold remF topB
    have hlen : lenB (fnU u m) 0 = (blF (fnU u m) 0).list.length + 1 := rfl
    simp only
    omega
  · show _ ≤ 340 + 0
    omega
end Go.Proofs.YtdjamkinijhjoaaDoor
