/-
  Plain: what a run of a unit does, step by step; and what holds of it all along, of a unit whose check tells no fault.
Plain: what holds of a run all along.
-/
import Derived.Test.YtdjamkinijhjoaaDoorChkS
namespace Go.Proofs.YtdjamkinijhjoaaDoor
open Go.RowKit

def noI : InsL := ⟨0, 0, false, 0, false, 0, 0, []⟩
def noB : BlkL := ⟨[], [], ⟨0, false, 0, []⟩⟩
def noF : FunL := ⟨⟨#[]⟩, 0, 0, []⟩
/-- function k, block b of a function -/
def fnU (u : UniL) (k : Nat) : FunL := u.funcs.getD k noF
def blF (f : FunL) (b : Nat) : BlkL := f.blocks.getD b noB
theorem fnU_get {u : UniL} {k : Nat} (h : k < u.funcs.length) : fnU u k = u.funcs[k] := by unfold fnU; simp [List.getD, h]
theorem blF_get {f : FunL} {b : Nat} (h : b < f.blocks.length) : blF f b = f.blocks[b] := by unfold blF; simp [List.getD, h]

/-- a function under way -/
structure FrL where
  fn : Nat
  block : Nat
  pos : Nat
  regs : List Int
  dst : Int
/-- a run under way: its memory, what can be read still, its state, what main told, what was printed, its steps, the functions under way (the last one first), how often each block was come to -/
structure StL where
  mem : List Int
  inp : List Int
  state : Int
  value : Int
  outs : List Int
  steps : Nat
  frames : List FrL
  cnt : Nat → Nat → Int

def valL (rs : List Int) (r : Bool) (n : Int) : Int := if r = true then rs.getD n.toNat 0 else n
def setL (rs : List Int) (dst n : Int) : List Int := if 0 ≤ dst then rs.set dst.toNat n else rs
def bump (c : Nat → Nat → Int) (k b : Nat) : Nat → Nat → Int := fun x y => if x = k ∧ y = b then c x y + 1 else c x y
/-- what the phis of a block read, come to from a block -/
def nextL (rs : List Int) (k : Nat) (phis : List PhiL) : List Int := phis.map fun p => valL rs (p.src.getD k (false, 0)).1 (p.src.getD k (false, 0)).2
/-- the phis' numbers are written, one by one -/
def writeL (phis : List PhiL) (next : List Int) (rs : List Int) : Nat → List Int
  | 0 => rs
  | i + 1 => (writeL phis next rs i).set ((phis.map fun p : PhiL => p.dst).getD i 0).toNat (next.getD i 0)
/-- where a block stands among those ahead of another one -/
def fromL (f : FunL) (to block : Nat) : Nat := (rowOf (waysL f) to).idxOf block
def jumpF (u : UniL) (f : FrL) (to : Nat) : FrL :=
  { f with regs := writeL (blF (fnU u f.fn) to).phis (nextL f.regs (fromL (fnU u f.fn) to f.block) (blF (fnU u f.fn) to).phis) f.regs (blF (fnU u f.fn) to).phis.length, block := to, pos := 0 }
def jumpS (u : UniL) (s : StL) (to : Nat) : StL :=
  match s.frames with
  | [] => s
  | f :: rest => { s with frames := jumpF u f to :: rest, cnt := bump s.cnt f.fn to }
def putS (s : StL) (dst n : Int) : StL :=
  match s.frames with
  | [] => s
  | f :: rest => { s with frames := { f with regs := setL f.regs dst n } :: rest }
def enterS (u : UniL) (s : StL) (fn : Nat) (dst : Int) (args : List Int) : StL :=
  { s with frames := ⟨fn, 0, 0, args ++ List.replicate ((fnU u fn).regs.toNat - args.length) 0, dst⟩ :: s.frames, cnt := bump s.cnt fn 0 }
/-- the numbers of the function that runs -/
def topR (s : StL) : List Int := match s.frames with | [] => [] | f :: _ => f.regs
def endS (u : UniL) (s : StL) (e : EndL) : StL × Bool :=
  if e.kind = 2 then (jumpS u s (e.to.getD 0 0).toNat, true)
  else if e.kind = 3 then (jumpS u s (if valL (topR s) e.onr e.onn = 0 then e.to.getD 1 0 else e.to.getD 0 0).toNat, true)
  else match s.frames with
  | [] => (s, false)
  | f :: [] => ({ s with frames := [], value := valL f.regs e.onr e.onn, state := 0 }, false)
  | f :: g :: rest => (putS { s with frames := g :: rest } f.dst (valL f.regs e.onr e.onn), true)
def insS (u : UniL) (s : StL) (x : InsL) : StL × Bool :=
  if x.op = 18 ∨ x.op = 19 then
    if ¬(0 ≤ valL (topR s) x.ar x.an ∧ valL (topR s) x.ar x.an < s.mem.length) then ({ s with state := 3 }, false)
    else if x.op = 19 then ({ s with mem := s.mem.set (valL (topR s) x.ar x.an).toNat (valL (topR s) x.br x.bn) }, true)
    else (putS s x.dst (s.mem.getD (valL (topR s) x.ar x.an).toNat 0), true)
  else if x.op = 20 then
    if s.frames.length = 30 then ({ s with state := 4 }, false)
    else (enterS u s x.fn.toNat x.dst (x.args.map fun v => valL (topR s) v.1 v.2), true)
  else if x.op = 21 then
    match s.inp with
    | [] => (putS s x.dst (-1), true)
    | n :: l => (putS { s with inp := l } x.dst n, true)
  else if x.op = 22 then
    if s.outs.length = 200 then ({ s with state := 5 }, false)
    else ({ s with outs := s.outs ++ [valL (topR s) x.ar x.an] }, true)
  else if (twoL x.op (valL (topR s) x.ar x.an) (valL (topR s) x.br x.bn)).2 = false then ({ s with state := 2 }, false)
  else (putS s x.dst (twoL x.op (valL (topR s) x.ar x.an) (valL (topR s) x.br x.bn)).1, true)
/-- the block that runs -/
def topB (u : UniL) (f : FrL) : BlkL := blF (fnU u f.fn) f.block
def stepS (u : UniL) (s : StL) : StL × Bool :=
  match s.frames with
  | [] => (s, false)
  | f :: rest =>
    if f.pos = (topB u f).list.length then endS u { s with steps := s.steps + 1 } (topB u f).fin
    else insS u { s with steps := s.steps + 1, frames := { f with pos := f.pos + 1 } :: rest } ((topB u f).list.getD f.pos noI)
/-- so many steps more -/
def goS (u : UniL) : Nat → StL → StL
  | 0, s => { s with state := 1 }
  | n + 1, s => if (stepS u s).2 = true then goS u n (stepS u s).1 else (stepS u s).1
def memG (g : GloL) : List Int := g.init ++ List.replicate (g.size.toNat - g.init.length) 0
def memU (u : UniL) : List Int := u.globals.flatMap memG
/-- a run that begins -/
def startS (u : UniL) (inp : List Int) (m : Nat) : StL := enterS u ⟨memU u, inp, 0, 0, [], 0, [], fun _ _ => 0⟩ m (-1) []
def runU (u : UniL) (inp : List Int) (fuel : Nat) : StL := goS u fuel (startS u inp ((mainI u.funcs).getD 0))

/-! what a fine unit is -/
theorem ChkOk.bodyZ {u : UniL} (h : ChkOk u) {k : Nat} (hk : k < u.funcs.length) : bodyE u u.funcs[k] = 0 := (bodyI_eq hk).symm.trans (h.body k hk)
theorem bodyE_ends {u : UniL} {f : FunL} (h : bodyE u f = 0) : firstE (f.blocks.map fun b => endL f b.fin) = 0 ∧ firstE ((List.range f.blocks.length).map (blkI u f)) = 0 := by
  unfold bodyE at h
  by_cases e : firstE (f.blocks.map fun b => endL f b.fin) = 0
  · rw [if_pos e] at h; exact ⟨e, h⟩
  · rw [if_neg e] at h; exact absurd h e
theorem bodyE_end {u : UniL} {f : FunL} (h : bodyE u f = 0) {b : Nat} (hb : b < f.blocks.length) : endL f f.blocks[b].fin = 0 :=
  firstE_all (bodyE_ends h).1 _ (List.mem_map.2 ⟨_, List.getElem_mem hb, rfl⟩)
theorem bodyE_blk {u : UniL} {f : FunL} (h : bodyE u f = 0) {b : Nat} (hb : b < f.blocks.length) :
    (∀ p ∈ f.blocks[b].phis, phiL f b (rowOf (waysL f) b).length p = 0) ∧ ∀ x ∈ f.blocks[b].list, insL u f x = 0 := by
  have h1 := firstE_all (bodyE_ends h).2 (blkI u f b) (List.mem_map.2 ⟨b, List.mem_range.2 hb, rfl⟩)
  rw [blkI_eq hb] at h1
  unfold blkE at h1
  by_cases e : firstE (f.blocks[b].phis.map (phiL f b (rowOf (waysL f) b).length)) = 0
  · rw [if_pos e] at h1
    exact ⟨fun p hp => firstE_all e _ (List.mem_map.2 ⟨p, hp, rfl⟩), fun x hx => firstE_all h1 _ (List.mem_map.2 ⟨x, hx, rfl⟩)⟩
  · rw [if_neg e] at h1; exact absurd h1 e
/-- may a value stand where there are so many registers? -/
def ValOk (regs : Int) (r : Bool) (n : Int) : Prop := r = true → 0 ≤ n ∧ n < regs
theorem valE_zero {regs : Int} {r : Bool} {n : Int} (h : valE regs r n = 0) : ValOk regs r n := by
  intro hr
  unfold valE at h
  by_cases e : r = true ∧ ¬(0 ≤ n ∧ n ≤ regs - 1)
  · rw [if_pos e] at h; cases h
  · rcases Decidable.em (0 ≤ n ∧ n ≤ regs - 1) with g | g
    · omega
    · exact absurd ⟨hr, g⟩ e
theorem dstE_zero {regs n : Int} (h : dstE regs n = 0) : 0 ≤ n ∧ n < regs := by
  unfold dstE at h
  split at h
  · omega
  · cases h
/-- what an end of a fine unit is -/
structure EndOk (f : FunL) (x : EndL) : Prop where
  kind : x.kind = 1 ∨ x.kind = 2 ∨ x.kind = 3
  len : (x.to.length : Int) = x.kind - 1
  to : ∀ t ∈ x.to, 1 ≤ t ∧ t < f.blocks.length
  on : ValOk f.regs x.onr x.onn
theorem endL_zero {f : FunL} {x : EndL} (h : endL f x = 0) : EndOk f x := by
  have h0 := (endE_zero h).2
  unfold endL endE at h
  by_cases a : 1 ≤ x.kind ∧ x.kind ≤ 3
  · rw [if_neg (by simpa using a)] at h
    by_cases b : (x.to.length : Int) = x.kind - 1
    · rw [if_neg (by simpa using b)] at h
      by_cases c : x.to.any (fun t => !wthn t 1 ((f.blocks.length : Int) - 1)) = true
      · rw [if_pos c] at h; cases h
      · rw [if_neg c] at h
        split at h
        · cases h
        · exact ⟨by omega, b, h0, valE_zero h⟩
    · rw [if_pos (by simpa using b)] at h; cases h
  · rw [if_pos (by simpa using a)] at h; cases h
structure PhiOk (f : FunL) (b : Nat) (p : PhiL) : Prop where
  dst : 0 ≤ p.dst ∧ p.dst < f.regs
  len : p.src.length = (rowOf (waysL f) b).length
  src : ∀ v ∈ p.src, ValOk f.regs v.1 v.2
theorem phiL_zero {f : FunL} {b : Nat} {p : PhiL} (h : phiL f b (rowOf (waysL f) b).length p = 0) : PhiOk f b p := by
  unfold phiL phiE at h
  split at h
  · cases h
  split at h
  · rename_i h1 h2; exact absurd h h2
  split at h
  · cases h
  rename_i h1 h2 h3
  exact ⟨dstE_zero (by simpa using h2), by simpa using h3, fun v hv => valE_zero (firstE_all h _ (List.mem_map.2 ⟨v, hv, rfl⟩))⟩
structure InsOk (u : UniL) (f : FunL) (x : InsL) : Prop where
  op : 1 ≤ x.op ∧ x.op ≤ 22
  dst : -1 ≤ x.dst ∧ (x.dst < f.regs ∨ x.dst = -1)
  dst0 : x.op ≠ 19 → x.op ≠ 20 → x.op ≠ 22 → 0 ≤ x.dst
  a : ValOk f.regs x.ar x.an
  b : ValOk f.regs x.br x.bn
  call : x.op = 20 → (0 ≤ x.fn ∧ x.fn < u.funcs.length) ∧ (x.args.length : Int) = parU u x.fn.toNat
  arg : ∀ v ∈ x.args, ValOk f.regs v.1 v.2
theorem insL_zero {u : UniL} {f : FunL} {x : InsL} (h : insL u f x = 0) : InsOk u f x := by
  unfold insL insE at h
  split at h
  · cases h
  split at h
  · cases h
  split at h
  · rename_i h1 h2 h3; exact absurd h h3.2.2
  rename_i h1 h2 h3
  have h1 : 1 ≤ x.op ∧ x.op ≤ 22 := by omega
  have ha := firstE_all h (valE f.regs x.ar x.an) (by simp)
  have hb := firstE_all h (valE f.regs x.br x.bn) (by simp)
  have hc := firstE_all h (callE f.regs u.funcs.length (parU u) (x.op == 20) x.fn x.args) (by simp)
  have hd : (shD x.op = true ∧ ¬(x.op = 20 ∧ x.dst = -1) → 0 ≤ x.dst ∧ x.dst < f.regs) := fun hh => by
    refine dstE_zero ?_
    rcases Decidable.em (dstE f.regs x.dst = 0) with g | g
    · exact g
    · exact absurd ⟨hh.1, hh.2, g⟩ h3
  have hs : shD x.op = false → x.dst = -1 := fun hh => by
    rcases Decidable.em (x.dst = -1) with g | g
    · exact g
    · exact absurd (.inl ⟨hh, g⟩) h2
  have hca : x.op = 20 → ((0 ≤ x.fn ∧ x.fn < u.funcs.length) ∧ (x.args.length : Int) = parU u x.fn.toNat) ∧ valsE f.regs x.args = 0 := fun hh => by
    unfold callE at hc
    rw [if_neg (by simp [hh])] at hc
    split at hc
    · cases hc
    split at hc
    · cases hc
    rename_i g1 g2
    exact ⟨⟨by omega, by omega⟩, hc⟩
  refine ⟨h1, ?_, fun h19 h20 h22 => ?_, valE_zero ha, valE_zero hb, fun hh => (hca hh).1, fun v hv => ?_⟩
  · cases hD : shD x.op
    · have := hs hD; omega
    · rcases Decidable.em (x.op = 20 ∧ x.dst = -1) with g | g
      · omega
      · have := hd ⟨hD, g⟩; omega
  · have hD : shD x.op = true := by unfold shD; rw [decide_eq_true_eq]; omega
    exact (hd ⟨hD, by omega⟩).1
  · rcases Decidable.em (x.op = 20) with g | g
    · exact valE_zero (firstE_all (hca g).2 _ (List.mem_map.2 ⟨v, hv, rfl⟩))
    · have : ¬(x.fn ≠ 0 ∨ 0 < x.args.length) := fun hh => h2 (.inr (.inr (.inr ⟨g, hh⟩)))
      have : x.args.length = 0 := by omega
      rw [List.length_eq_zero_iff] at this
      rw [this] at hv
      cases hv
/-- what leads to a block stands among those ahead of it -/
theorem waysOf_mem (T : List (List Int)) : ∀ (n i : Nat) (t : Int), i < n → t ∈ T.getD i [] → (t.toNat, i) ∈ waysOf T n
  | 0, i, t, h, _ => by omega
  | n + 1, i, t, h, ht => by
    unfold waysOf
    rcases Nat.lt_or_ge i n with g | g
    · exact List.mem_append_left _ (waysOf_mem T n i t g ht)
    · obtain rfl : i = n := by omega
      exact List.mem_append_right _ (List.mem_map.2 ⟨t, ht, rfl⟩)
theorem rowOf_mem {ps : List (Nat × Nat)} {t i : Nat} (h : (t, i) ∈ ps) : i ∈ rowOf ps t := by
  unfold rowOf
  exact List.mem_map.2 ⟨(t, i), List.mem_filter.2 ⟨h, by simp⟩, rfl⟩
theorem row_mem {f : FunL} {b : Nat} (hb : b < f.blocks.length) {t : Int} (ht : t ∈ f.blocks[b].fin.to) : b ∈ rowOf (waysL f) t.toNat :=
  rowOf_mem (waysOf_mem _ _ _ _ hb (by rw [tos_getD f b hb]; exact ht))
theorem from_lt {f : FunL} {b : Nat} (hb : b < f.blocks.length) {t : Int} (ht : t ∈ f.blocks[b].fin.to) : fromL f t.toNat b < (rowOf (waysL f) t.toNat).length :=
  List.idxOf_lt_length_iff.2 (row_mem hb ht)
end Go.Proofs.YtdjamkinijhjoaaDoor
namespace Go.Proofs.YtdjamkinijhjoaaDoor
open Go.RowKit

/-- all numbers of a unit are of Go's int -/
structure U64 (u : UniL) : Prop where
  ins : ∀ f ∈ u.funcs, ∀ b ∈ f.blocks, ∀ x ∈ b.list, I64 x.an ∧ I64 x.bn ∧ ∀ v ∈ x.args, I64 v.2
  phi : ∀ f ∈ u.funcs, ∀ b ∈ f.blocks, ∀ p ∈ b.phis, ∀ v ∈ p.src, I64 v.2
  fin : ∀ f ∈ u.funcs, ∀ b ∈ f.blocks, I64 b.fin.onn
  init : ∀ g ∈ u.globals, ∀ x ∈ g.init, I64 x
theorem I64.zero : I64 0 := by unfold I64; omega
structure FrOk (u : UniL) (f : FrL) : Prop where
  fn : f.fn < u.funcs.length
  block : f.block < (fnU u f.fn).blocks.length
  pos : f.pos ≤ (topB u f).list.length
  regs : f.regs.length = (fnU u f.fn).regs.toNat
  i64 : ∀ x ∈ f.regs, I64 x
def DstOk : List FrL → Prop
  | f :: g :: r => (-1 ≤ f.dst ∧ f.dst < g.regs.length) ∧ DstOk (g :: r)
  | _ => True
structure StOk (u : UniL) (s : StL) : Prop where
  frs : ∀ f ∈ s.frames, FrOk u f
  dst : DstOk s.frames
  few : s.frames.length ≤ 30
  outs : s.outs.length ≤ 200
  outI : ∀ x ∈ s.outs, I64 x
  mem : s.mem.length ≤ 200
  memI : ∀ x ∈ s.mem, I64 x
  inpI : ∀ x ∈ s.inp, I64 x
  cnt : ∀ k b, 0 ≤ s.cnt k b ∧ s.cnt k b ≤ s.steps + 1
  val : I64 s.value
/-- a fine unit, and its numbers -/
structure UOk (u : UniL) : Prop where
  chk : ChkOk u
  i64 : U64 u

theorem getD_i64 {l : List Int} (h : ∀ x ∈ l, I64 x) (i : Nat) : I64 (l.getD i 0) := by
  rcases Nat.lt_or_ge i l.length with g | g
  · simp only [List.getD, List.getElem?_eq_getElem g, Option.getD_some]
    exact h _ (List.getElem_mem g)
  · simp only [List.getD, List.getElem?_eq_none g, Option.getD_none]
    exact I64.zero
theorem valL_i64 {rs : List Int} (h : ∀ x ∈ rs, I64 x) {r : Bool} {n : Int} (hn : I64 n) : I64 (valL rs r n) := by
  unfold valL
  split
  · exact getD_i64 h _
  · exact hn
theorem set_i64 {l : List Int} (h : ∀ x ∈ l, I64 x) (i : Nat) {n : Int} (hn : I64 n) : ∀ x ∈ l.set i n, I64 x := fun x hx => by
  rcases List.mem_or_eq_of_mem_set hx with g | g
  · exact h x g
  · rw [g]; exact hn
theorem setL_len (rs : List Int) (d n : Int) : (setL rs d n).length = rs.length := by
  unfold setL
  split <;> simp
theorem setL_i64 {rs : List Int} (h : ∀ x ∈ rs, I64 x) (d : Int) {n : Int} (hn : I64 n) : ∀ x ∈ setL rs d n, I64 x := by
  unfold setL
  split
  · exact set_i64 h _ hn
  · exact h
theorem writeL_len (phis : List PhiL) (next rs : List Int) : ∀ i, (writeL phis next rs i).length = rs.length
  | 0 => rfl
  | i + 1 => by unfold writeL; rw [List.length_set, writeL_len phis next rs i]
theorem writeL_i64 (phis : List PhiL) {next rs : List Int} (h : ∀ x ∈ rs, I64 x) (hn : ∀ x ∈ next, I64 x) : ∀ i, ∀ x ∈ writeL phis next rs i, I64 x
  | 0 => h
  | i + 1 => by unfold writeL; exact set_i64 (writeL_i64 phis h hn i) _ (getD_i64 hn _)
theorem UOk.fn {u : UniL} (h : UOk u) {k : Nat} (hk : k < u.funcs.length) : fnU u k ∈ u.funcs ∧ bodyE u (fnU u k) = 0 ∧ 1 ≤ (fnU u k).blocks.length ∧ (fnU u k).blocks.length ≤ 40 ∧ 0 ≤ (fnU u k).regs ∧ (fnU u k).regs ≤ 100 ∧ manyL (fnU u k) ≤ 300 := by
  have h1 := h.chk.fn hk
  rw [fnU_get hk]
  exact ⟨List.getElem_mem hk, h.chk.bodyZ hk, h1.2.2.1.1, h1.2.2.1.2, by omega, h1.2.1.2, h1.2.2.2⟩
theorem UOk.fin {u : UniL} (h : UOk u) {f : FrL} (hf : FrOk u f) : EndOk (fnU u f.fn) (topB u f).fin ∧ I64 (topB u f).fin.onn := by
  obtain ⟨h1, h2, _⟩ := h.fn hf.fn
  unfold topB
  rw [blF_get hf.block]
  exact ⟨endL_zero (bodyE_end h2 hf.block), h.i64.fin _ h1 _ (List.getElem_mem _)⟩
theorem UOk.ins {u : UniL} (h : UOk u) {f : FrL} (hf : FrOk u f) {x : InsL} (hx : x ∈ (topB u f).list) : InsOk u (fnU u f.fn) x ∧ I64 x.an ∧ I64 x.bn ∧ ∀ v ∈ x.args, I64 v.2 := by
  obtain ⟨h1, h2, _⟩ := h.fn hf.fn
  unfold topB at hx
  rw [blF_get hf.block] at hx
  exact ⟨insL_zero ((bodyE_blk h2 hf.block).2 x hx), h.i64.ins _ h1 _ (List.getElem_mem _) x hx⟩
theorem UOk.phi {u : UniL} (h : UOk u) {k b : Nat} (hk : k < u.funcs.length) (hb : b < (fnU u k).blocks.length) {p : PhiL} (hp : p ∈ (blF (fnU u k) b).phis) : PhiOk (fnU u k) b p ∧ ∀ v ∈ p.src, I64 v.2 := by
  obtain ⟨h1, h2, _⟩ := h.fn hk
  rw [blF_get hb] at hp
  exact ⟨phiL_zero ((bodyE_blk h2 hb).1 p hp), h.i64.phi _ h1 _ (List.getElem_mem _) p hp⟩
theorem UOk.to {u : UniL} (h : UOk u) {f : FrL} (hf : FrOk u f) {t : Int} (ht : t ∈ (topB u f).fin.to) : 1 ≤ t ∧ t < (fnU u f.fn).blocks.length ∧ fromL (fnU u f.fn) t.toNat f.block < (rowOf (waysL (fnU u f.fn)) t.toNat).length := by
  have h1 := (h.fin hf).1.to t ht
  unfold topB at ht
  rw [blF_get hf.block] at ht
  exact ⟨h1.1, h1.2, from_lt hf.block ht⟩
theorem nextL_i64 {u : UniL} (h : UOk u) {k b : Nat} (hk : k < u.funcs.length) (hb : b < (fnU u k).blocks.length) {rs : List Int} (hr : ∀ x ∈ rs, I64 x) (c : Nat) : ∀ x ∈ nextL rs c (blF (fnU u k) b).phis, I64 x := fun x hx => by
  obtain ⟨p, hp, rfl⟩ := List.mem_map.1 hx
  have := (h.phi hk hb hp).2
  refine valL_i64 hr ?_
  rcases Nat.lt_or_ge c p.src.length with g | g
  · simp only [List.getD, List.getElem?_eq_getElem g, Option.getD_some]
    exact this _ (List.getElem_mem g)
  · simp only [List.getD, List.getElem?_eq_none g, Option.getD_none]
    exact I64.zero
theorem jumpF_ok {u : UniL} (h : UOk u) {f : FrL} (hf : FrOk u f) {t : Int} (ht : t ∈ (topB u f).fin.to) : FrOk u (jumpF u f t.toNat) := by
  obtain ⟨h1, h2, h3⟩ := h.to hf ht
  have hb : t.toNat < (fnU u f.fn).blocks.length := by omega
  exact ⟨hf.fn, hb, Nat.zero_le _, by show _ = (fnU u f.fn).regs.toNat; rw [← hf.regs]; exact writeL_len _ _ _ _, writeL_i64 _ hf.i64 (nextL_i64 h hf.fn hb hf.i64 _) _⟩
theorem DstOk.tail {f : FrL} {l : List FrL} (h : DstOk (f :: l)) : DstOk l := by
  cases l with
  | nil => trivial
  | cons g r => exact h.2
theorem DstOk.head {f g : FrL} {l : List FrL} (h : DstOk (f :: l)) (e : g.dst = f.dst) : DstOk (g :: l) := by
  cases l with
  | nil => trivial
  | cons x r => exact ⟨by rw [e]; exact h.1, h.2⟩
theorem bump_le {c : Nat → Nat → Int} {k b x y : Nat} {n : Nat} (h : ∀ k b, 0 ≤ c k b ∧ c k b ≤ n + 1) : 0 ≤ bump c k b x y ∧ bump c k b x y ≤ (n + 1 : Nat) + 1 := by
  have := h x y
  unfold bump
  split <;> omega
theorem bumpN_le {c : Nat → Nat → Int} {n : Nat} (h : ∀ k b, 0 ≤ c k b ∧ c k b ≤ n + 1) (x y : Nat) : 0 ≤ c x y ∧ c x y ≤ (n + 1 : Nat) + 1 := by
  have := h x y
  omega
theorem FrOk.put {u : UniL} {f : FrL} (hf : FrOk u f) (d : Int) {n : Int} (hn : I64 n) : FrOk u { f with regs := setL f.regs d n } :=
  ⟨hf.fn, hf.block, hf.pos, (setL_len _ _ _).trans hf.regs, setL_i64 hf.i64 _ hn⟩
/-- what holds before the steps are counted -/
structure StOk' (u : UniL) (s : StL) : Prop where
  frs : ∀ f ∈ s.frames, FrOk u f
  dst : DstOk s.frames
  few : s.frames.length ≤ 30
  outs : s.outs.length ≤ 200
  outI : ∀ x ∈ s.outs, I64 x
  mem : s.mem.length ≤ 200
  memI : ∀ x ∈ s.mem, I64 x
  inpI : ∀ x ∈ s.inp, I64 x
  cnt : ∀ k b, 0 ≤ s.cnt k b ∧ s.cnt k b ≤ s.steps
  val : I64 s.value
theorem StOk'.ok {u : UniL} {s : StL} (h : StOk' u s) : StOk u s := ⟨h.frs, h.dst, h.few, h.outs, h.outI, h.mem, h.memI, h.inpI, fun k b => ⟨(h.cnt k b).1, by have := (h.cnt k b).2; omega⟩, h.val⟩
theorem StOk'.put {u : UniL} {s : StL} (h : StOk' u s) (d : Int) {n : Int} (hn : I64 n) : StOk' u (putS s d n) := by
  unfold putS
  cases hs : s.frames with
  | nil => exact h
  | cons f rest =>
    have h1 := h.frs
    have h2 := h.dst
    have h3 := h.few
    rw [hs] at h1 h2 h3
    refine ⟨fun g hg => ?_, ?_, h3, h.outs, h.outI, h.mem, h.memI, h.inpI, h.cnt, h.val⟩
    · rcases List.mem_cons.1 hg with e | e
      · rw [e]; exact (h1 f List.mem_cons_self).put d hn
      · exact h1 g (List.mem_cons_of_mem _ e)
    · exact h2.head rfl
theorem jumpS_eq {u : UniL} {s : StL} {f : FrL} {rest : List FrL} (hs : s.frames = f :: rest) (t : Nat) : jumpS u s t = { s with frames := jumpF u f t :: rest, cnt := bump s.cnt f.fn t } := by
  unfold jumpS
  rw [hs]
theorem putS_eq {s : StL} {f : FrL} {rest : List FrL} (hs : s.frames = f :: rest) (d n : Int) : putS s d n = { s with frames := { f with regs := setL f.regs d n } :: rest } := by
  unfold putS
  rw [hs]
theorem StOk'.jump {u : UniL} (hu : UOk u) {s : StL} (h : StOk' u s) {f : FrL} {rest : List FrL} (hs : s.frames = f :: rest) {t : Int} (ht : t ∈ (topB u f).fin.to) : StOk u (jumpS u s t.toNat) := by
  rw [jumpS_eq hs]
  have h1 := h.frs
  have h2 := h.dst
  have h3 := h.few
  rw [hs] at h1 h2 h3
  refine ⟨fun g hg => ?_, ?_, h3, h.outs, h.outI, h.mem, h.memI, h.inpI, fun k b => ?_, h.val⟩
  · rcases List.mem_cons.1 hg with e | e
    · rw [e]; exact jumpF_ok hu (h1 f List.mem_cons_self) ht
    · exact h1 g (List.mem_cons_of_mem _ e)
  · exact h2.head rfl
  · have := h.cnt k b
    show 0 ≤ bump s.cnt f.fn t.toNat k b ∧ bump s.cnt f.fn t.toNat k b ≤ (s.steps : Int) + 1
    unfold bump
    split <;> omega
theorem enter_regs (args : List Int) (n : Nat) (h : args.length ≤ n) : (args ++ List.replicate (n - args.length) 0).length = n := by simp; omega
theorem enterF_ok {u : UniL} (hu : UOk u) {k : Nat} (hk : k < u.funcs.length) {args : List Int} (ha : args.length ≤ (fnU u k).regs.toNat) (hi : ∀ x ∈ args, I64 x) (d : Int) : FrOk u ⟨k, 0, 0, args ++ List.replicate ((fnU u k).regs.toNat - args.length) 0, d⟩ := by
  obtain ⟨_, _, h3, _⟩ := hu.fn hk
  refine ⟨hk, h3, Nat.zero_le _, enter_regs _ _ ha, fun x hx => ?_⟩
  rcases List.mem_append.1 hx with g | g
  · exact hi x g
  · rw [(List.mem_replicate.1 g).2]; exact I64.zero
theorem StOk'.enter {u : UniL} (hu : UOk u) {s : StL} (h : StOk' u s) (hl : s.frames.length < 30) {k : Nat} (hk : k < u.funcs.length) {args : List Int} (ha : args.length ≤ (fnU u k).regs.toNat) (hi : ∀ x ∈ args, I64 x) {d : Int} (hd : ∀ f rest, s.frames = f :: rest → -1 ≤ d ∧ d < f.regs.length) : StOk u (enterS u s k d args) := by
  refine ⟨fun g hg => ?_, ?_, by simp [enterS]; omega, h.outs, h.outI, h.mem, h.memI, h.inpI, fun x y => ?_, h.val⟩
  · rcases List.mem_cons.1 hg with e | e
    · rw [e]; exact enterF_ok hu hk ha hi d
    · exact h.frs g e
  · show DstOk (_ :: s.frames)
    have h2 := h.dst
    cases hs : s.frames with
    | nil => trivial
    | cons f rest =>
      rw [hs] at h2
      exact ⟨hd f rest hs, h2⟩
  · have := h.cnt x y
    show 0 ≤ bump s.cnt k 0 x y ∧ bump s.cnt k 0 x y ≤ (s.steps : Int) + 1
    unfold bump
    split <;> omega
theorem wrap64_in64 (n : Int) : I64 (wrap64 n) := by unfold I64 wrap64; omega
theorem bits_in64 (o : BinOp) (a b : Int) : I64 (bits o .i64 a b) := by
  have h : ∀ x : Int, I64 (IntKind.i64.wrap x) := fun x => by rw [IntKind.wrap_i64]; unfold I64; omega
  unfold bits
  exact h _
theorem div_in64 {a : Int} (h : I64 a) (k : Nat) : I64 (a / 2 ^ k) := by
  have hm : (1 : Int) ≤ 2 ^ k := by
    have : (0 : Int) < 2 ^ k := Int.pow_pos (by omega)
    omega
  unfold I64 at *
  have e := Int.mul_ediv_add_emod a (2 ^ k)
  have r0 := Int.emod_nonneg a (show (2 : Int) ^ k ≠ 0 by omega)
  have r1 := Int.emod_lt_of_pos a (show (0 : Int) < 2 ^ k by omega)
  generalize (2 : Int) ^ k = m at *
  generalize a / m = q at *
  constructor
  · rcases Int.lt_or_le q (-9223372036854775808) with g | g
    · have h1 : m * (q + 1) ≤ m * (-9223372036854775808) := Int.mul_le_mul_of_nonneg_left (by omega) (by omega)
      have h2 : m * (-9223372036854775808) ≤ -9223372036854775808 := by omega
      rw [Int.mul_add] at h1
      omega
    · exact g
  · rcases Int.lt_or_le 9223372036854775807 q with g | g
    · have h1 : m * 9223372036854775808 ≤ m * q := Int.mul_le_mul_of_nonneg_left (by omega) (by omega)
      omega
    · exact g
theorem tmod_in64 {a b : Int} (ha : I64 a) : I64 (a.tmod b) := by
  unfold I64 at *
  have h1 : (a.tmod b).natAbs ≤ a.natAbs := by rw [Int.natAbs_tmod]; exact Nat.mod_le _ _
  by_cases h : 0 ≤ a
  · have h2 := Int.tmod_nonneg b h
    omega
  · have h2 := Int.tmod_nonneg b (a := -a) (by omega)
    rw [Int.neg_tmod] at h2
    omega
theorem twoL_in64 {op a b : Int} (ha : I64 a) : I64 (twoL op a b).1 := by
  have ite_i : ∀ {c : Prop} [Decidable c] {x y : Int × Bool}, I64 x.1 → I64 y.1 → I64 (if c then x else y).1 := by
    intro c _ x y hx hy
    by_cases hc : c
    · rw [if_pos hc]; exact hx
    · rw [if_neg hc]; exact hy
  have small : ∀ n : Int, -1 ≤ n → n ≤ 1 → I64 n := fun n h1 h2 => by unfold I64; omega
  unfold twoL
  repeat' (refine ite_i ?_ ?_)
  all_goals dsimp only
  all_goals first
    | with_reducible exact ha
    | with_reducible exact wrap64_in64 _
    | with_reducible exact bits_in64 _ _ _
    | with_reducible exact tmod_in64 ha
    | with_reducible exact div_in64 ha _
    | (refine small _ ?_ ?_ <;> (try split) <;> omega)
    | (unfold I64 at *; omega)

theorem StOk.tick {u : UniL} {s : StL} (h : StOk u s) : StOk' u { s with steps := s.steps + 1 } :=
  ⟨h.frs, h.dst, h.few, h.outs, h.outI, h.mem, h.memI, h.inpI, fun k b => by have := h.cnt k b; show 0 ≤ s.cnt k b ∧ s.cnt k b ≤ ((s.steps + 1 : Nat) : Int); omega, h.val⟩
theorem topR_i64 {u : UniL} {s : StL} (h : ∀ f ∈ s.frames, FrOk u f) : ∀ x ∈ topR s, I64 x := by
  unfold topR
  cases hs : s.frames with
  | nil => intro x hx; cases hx
  | cons f rest => exact (h f (by rw [hs]; exact List.mem_cons_self)).i64
theorem getD_mem {α : Type} {l : List α} {i : Nat} {d : α} (h : i < l.length) : l.getD i d ∈ l := by
  simp only [List.getD, List.getElem?_eq_getElem h, Option.getD_some]
  exact List.getElem_mem h
theorem end_ok {u : UniL} (hu : UOk u) {s : StL} (h : StOk' u s) {f : FrL} {rest : List FrL} (hs : s.frames = f :: rest) : StOk u (endS u s (topB u f).fin).1 := by
  have hf := h.frs f (by rw [hs]; exact List.mem_cons_self)
  obtain ⟨he, hn⟩ := hu.fin hf
  have hlen := he.len
  have hv : I64 (valL f.regs (topB u f).fin.onr (topB u f).fin.onn) := valL_i64 hf.i64 hn
  unfold endS
  split
  · exact h.jump hu hs (getD_mem (by omega))
  split
  · show StOk u (jumpS u s _)
    split
    · exact h.jump hu hs (getD_mem (by omega))
    · exact h.jump hu hs (getD_mem (by omega))
  have h1 := h.frs
  have h2 := h.dst
  have h3 := h.few
  rw [hs] at h1 h2 h3
  cases rest with
  | nil =>
    rw [hs]
    show StOk u { s with frames := [], value := valL f.regs (topB u f).fin.onr (topB u f).fin.onn, state := 0 }
    exact ⟨fun g hg => absurd hg (by simp), trivial, Nat.zero_le _, h.outs, h.outI, h.mem, h.memI, h.inpI, h.ok.cnt, hv⟩
  | cons g rest =>
    rw [hs]
    have hb : StOk' u { s with frames := g :: rest } := ⟨fun x hx => h1 x (List.mem_cons_of_mem _ hx), h2.tail, by simp at h3 ⊢; omega, h.outs, h.outI, h.mem, h.memI, h.inpI, h.cnt, h.val⟩
    exact (hb.put _ hv).ok
theorem ins_ok {u : UniL} (hu : UOk u) {s : StL} (h : StOk' u s) {f : FrL} {rest : List FrL} (hs : s.frames = f :: rest) {x : InsL} (hx : x ∈ (topB u f).list) : StOk u (insS u s x).1 := by
  have hf := h.frs f (by rw [hs]; exact List.mem_cons_self)
  obtain ⟨hi, ha, hb, hargs⟩ := hu.ins hf hx
  have ht := topR_i64 h.frs
  have hA : I64 (valL (topR s) x.ar x.an) := valL_i64 ht ha
  have hB : I64 (valL (topR s) x.br x.bn) := valL_i64 ht hb
  have hstop : ∀ n, StOk u { s with state := n } := fun n => ⟨h.frs, h.dst, h.few, h.outs, h.outI, h.mem, h.memI, h.inpI, h.ok.cnt, h.val⟩
  unfold insS
  split
  · split
    · exact hstop _
    split
    · exact ⟨h.frs, h.dst, h.few, h.outs, h.outI, by simp; exact h.mem, set_i64 h.memI _ hB, h.inpI, h.ok.cnt, h.val⟩
    · exact (h.put _ (getD_i64 h.memI _)).ok
  split
  · rename_i hop
    split
    · exact hstop _
    · rename_i hl
      obtain ⟨h1, h2⟩ := hi.call hop
      have hk : x.fn.toNat < u.funcs.length := by omega
      obtain ⟨_, _, _, _, hr0, _, _⟩ := hu.fn hk
      have hp := (hu.chk.fn hk).2.1.1
      have hpar : parU u x.fn.toNat = u.funcs[x.fn.toNat].params := by unfold parU; simp [List.getD, hk]
      refine h.enter hu (by have := h.few; omega) hk (args := x.args.map fun v => valL (topR s) v.1 v.2) ?_ (fun y hy => ?_) (fun g r hgr => ?_)
      · rw [List.length_map, fnU_get hk]; rw [fnU_get hk] at hr0; omega
      · obtain ⟨v, hv, rfl⟩ := List.mem_map.1 hy
        exact valL_i64 ht (hargs v hv)
      · rw [hs] at hgr
        cases hgr
        have := hi.dst
        have := hf.regs
        omega
  split
  · split
    · exact (h.put _ (by unfold I64; omega)).ok
    · rename_i n l hl
      have hI := h.inpI
      rw [hl] at hI
      have hb : StOk' u { s with inp := l } := ⟨h.frs, h.dst, h.few, h.outs, h.outI, h.mem, h.memI, fun y hy => hI y (List.mem_cons_of_mem _ hy), h.cnt, h.val⟩
      exact (hb.put _ (hI n List.mem_cons_self)).ok
  split
  · split
    · exact hstop _
    · rename_i hl
      refine ⟨h.frs, h.dst, h.few, by have := h.outs; simp; omega, fun y hy => ?_, h.mem, h.memI, h.inpI, h.ok.cnt, h.val⟩
      rcases List.mem_append.1 hy with g | g
      · exact h.outI y g
      · rw [List.mem_singleton.1 g]; exact hA
  split
  · exact hstop _
  · exact (h.put _ (twoL_in64 hA)).ok
/-- a step keeps all that -/
theorem step_ok {u : UniL} (hu : UOk u) {s : StL} (h : StOk u s) : StOk u (stepS u s).1 := by
  unfold stepS
  cases hs : s.frames with
  | nil => exact h
  | cons f rest =>
    have hf := h.frs f (by rw [hs]; exact List.mem_cons_self)
    have ht := h.tick
    simp only
    split
    · rw [← hs]
      exact end_ok hu ht (f := f) (rest := rest) hs
    · rename_i hp
      have hlt : f.pos < (topB u f).list.length := by have := hf.pos; omega
      have h1 := ht.frs
      have h2 := ht.dst
      have h3 := ht.few
      simp only [hs] at h1 h2 h3
      have hb : StOk' u { s with steps := s.steps + 1, frames := { f with pos := f.pos + 1 } :: rest } :=
        ⟨fun g hg => by
          rcases List.mem_cons.1 hg with e | e
          · rw [e]; exact ⟨hf.fn, hf.block, hlt, hf.regs, hf.i64⟩
          · exact h1 g (List.mem_cons_of_mem _ e), h2.head rfl, h3, ht.outs, ht.outI, ht.mem, ht.memI, ht.inpI, ht.cnt, ht.val⟩
      exact ins_ok hu hb (f := { f with pos := f.pos + 1 }) (rest := rest) rfl (getD_mem hlt)
theorem memU_ok {u : UniL} (hu : UOk u) : (memU u).length ≤ 200 ∧ ∀ x ∈ memU u, I64 x := by
  have h1 : ∀ k, k ≤ u.globals.length → (((u.globals.take k).flatMap memG).length : Int) = wordsTo u k := by
    intro k
    induction k with
    | zero => intro _; simp [wordsTo]
    | succ k ih =>
      intro hk
      have h1 := gloE_zero ((gloI_eq (by omega)).symm.trans (hu.chk.glo k (by omega)))
      rw [wordsTo_succ (by omega), ← ih (by omega), List.take_succ_eq_append_getElem (by omega), List.flatMap_append]
      simp [memG]
      omega
  constructor
  · have h2 := h1 _ (Nat.le_refl _)
    rw [List.take_length] at h2
    have := (hu.chk.words _ (Nat.le_refl _)).2
    unfold memU
    omega
  · intro x hx
    obtain ⟨g, hg, hx⟩ := List.mem_flatMap.1 hx
    rcases List.mem_append.1 hx with e | e
    · exact hu.i64.init g hg x e
    · rw [(List.mem_replicate.1 e).2]; exact I64.zero
theorem start_ok {u : UniL} (hu : UOk u) {inp : List Int} (hi : ∀ x ∈ inp, I64 x) {m : Nat} (hm : m < u.funcs.length) : StOk u (startS u inp m) := by
  have hb : StOk' u ⟨memU u, inp, 0, 0, [], 0, [], fun _ _ => 0⟩ := ⟨fun g hg => absurd hg (by simp), trivial, Nat.zero_le _, Nat.zero_le _, fun x hx => absurd hx (by simp), (memU_ok hu).1, (memU_ok hu).2, hi, fun k b => ⟨Int.le_refl _, by simp⟩, I64.zero⟩
  exact hb.enter hu (by simp) hm (by simp) (fun x hx => absurd hx (by simp)) (fun f r h => absurd h (by simp))
theorem go_ok {u : UniL} (hu : UOk u) : ∀ (n : Nat) {s : StL}, StOk u s → StOk u (goS u n s)
  | 0, s, h => ⟨h.frs, h.dst, h.few, h.outs, h.outI, h.mem, h.memI, h.inpI, h.cnt, h.val⟩
  | n + 1, s, h => by
    unfold goS
    split
    · exact go_ok hu n (step_ok hu h)
    · exact step_ok hu h
theorem putS_ne {s : StL} (d n : Int) (h : s.frames ≠ []) : (putS s d n).frames ≠ [] := by
  unfold putS
  cases hs : s.frames with
  | nil => exact absurd hs h
  | cons f rest => simp
theorem jumpS_ne {u : UniL} {s : StL} (t : Nat) (h : s.frames ≠ []) : (jumpS u s t).frames ≠ [] := by
  unfold jumpS
  cases hs : s.frames with
  | nil => exact absurd hs h
  | cons f rest => simp
theorem end_more {u : UniL} {s : StL} {e : EndL} (h : (endS u s e).2 = true) (hs : s.frames ≠ []) : (endS u s e).1.frames ≠ [] := by
  unfold endS at h ⊢
  split
  · exact jumpS_ne _ hs
  split
  · exact jumpS_ne _ hs
  rename_i h1 h2
  rw [if_neg h1, if_neg h2] at h
  split at h
  · cases h
  · cases h
  · rename_i f g rest hf
    exact putS_ne _ _ (by simp)
theorem ins_more {u : UniL} {s : StL} {x : InsL} (hs : s.frames ≠ []) : (insS u s x).1.frames ≠ [] := by
  unfold insS
  repeat' (first | (split; done) | split)
  all_goals first | exact hs | exact putS_ne _ _ hs | (unfold enterS; simp; done) | (apply putS_ne; exact hs)
/-- a step that goes on leaves a function under way -/
theorem step_more {u : UniL} {s : StL} (h : (stepS u s).2 = true) (hs : s.frames ≠ []) : (stepS u s).1.frames ≠ [] := by
  unfold stepS at h ⊢
  cases hf : s.frames with
  | nil => exact absurd hf hs
  | cons f rest =>
    rw [hf] at h
    simp only at h ⊢
    split
    · rename_i hp
      rw [if_pos hp] at h
      exact end_more h (by simp)
    · exact ins_more (by simp)
end Go.Proofs.YtdjamkinijhjoaaDoor
