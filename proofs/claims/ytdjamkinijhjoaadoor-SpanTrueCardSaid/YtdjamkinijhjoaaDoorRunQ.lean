/-
  Plain: what holds of a run all along.
-/
import Derived.Test.YtdjamkinijhjoaaDoorJDomO
namespace Go.Proofs.YtdjamkinijhjoaaDoor
open Go.RowKit

structure U64 (u : UniL) : Prop where
 ins : ∀ f ∈ u.funcs, ∀ b ∈ f.blocks, ∀ x ∈ b.list, I64 x.an ∧ I64 x.bn ∧ ∀ v ∈ x.args, I64 v.2
 phi : ∀ f ∈ u.funcs, ∀ b ∈ f.blocks, ∀ p ∈ b.phis, ∀ v ∈ p.src, I64 v.2
 fin : ∀ f ∈ u.funcs, ∀ b ∈ f.blocks, I64 b.fin.onn
 init : ∀ g ∈ u.globals, ∀ x ∈ g.init, I64 x
theorem I64.zero : I64 0 := by unfold I64; omega
structure FrOk (u : UniL) (f : FrL) : Prop where
 fn : f.fn < u.funcs.length
 block : f.block < (fnU u f.fn).blocks.length
 pos : f.pos ≤ (topB u f).list.length
 regs : f.regs.length = (fnU u f.fn).regs.toNat
 i64 : ∀ x ∈ f.regs, I64 x
def DstOk : List FrL → Prop
 | f :: g :: r => (-1 ≤ f.dst ∧ f.dst < g.regs.length) ∧ DstOk (g :: r)
 | _ => True
structure StOk (u : UniL) (s : StL) : Prop where
 frs : ∀ f ∈ s.frames, FrOk u f
 dst : DstOk s.frames
 few : s.frames.length ≤ 30
 outs : s.outs.length ≤ 200
 outI : ∀ x ∈ s.outs, I64 x
 mem : s.mem.length ≤ 200
 memI : ∀ x ∈ s.mem, I64 x
 inpI : ∀ x ∈ s.inp, I64 x
 cnt : ∀ k b, 0 ≤ s.cnt k b ∧ s.cnt k b ≤ s.steps + 1
 val : I64 s.value
structure UOk (u : UniL) : Prop where
 chk : ChkOk u
 i64 : U64 u

theorem getD_i64 {l : List Int} (h : ∀ x ∈ l, I64 x) (i : Nat) : I64 (l.getD i 0) := by
 rcases Nat.lt_or_ge i l.length with g | g
 ·simp only [List.getD, List.getElem?_eq_getElem g, Option.getD_some]
  exact h _ (List.getElem_mem g)
 ·simp only [List.getD, List.getElem?_eq_none g, Option.getD_none]
  exact I64.zero
theorem valL_i64 {rs : List Int} (h : ∀ x ∈ rs, I64 x) {r : Bool} {n : Int} (hn : I64 n) : I64 (valL rs r n) := by
 unfold valL
 split
 ·exact getD_i64 h _
 ·exact hn
theorem set_i64 {l : List Int} (h : ∀ x ∈ l, I64 x) (i : Nat) {n : Int} (hn : I64 n) : ∀ x ∈ l.set i n, I64 x := fun x hx => by
 rcases List.mem_or_eq_of_mem_set hx with g | g
 ·exact h x g
 ·rw [g]; exact hn
theorem setL_len (rs : List Int) (d n : Int) : (setL rs d n).length = rs.length := by
 unfold setL
 split <;> simp
theorem setL_i64 {rs : List Int} (h : ∀ x ∈ rs, I64 x) (d : Int) {n : Int} (hn : I64 n) : ∀ x ∈ setL rs d n, I64 x := by
 unfold setL
 split
 ·exact set_i64 h _ hn
 ·exact h
theorem writeL_len (phis : List PhiL) (next rs : List Int) : ∀ i, (writeL phis next rs i).length = rs.length
 | 0 => rfl
 | i + 1 => by unfold writeL; rw [List.length_set, writeL_len phis next rs i]
theorem writeL_i64 (phis : List PhiL) {next rs : List Int} (h : ∀ x ∈ rs, I64 x) (hn : ∀ x ∈ next, I64 x) : ∀ i, ∀ x ∈ writeL phis next rs i, I64 x
 | 0 => h
 | i + 1 => by unfold writeL; exact set_i64 (writeL_i64 phis h hn i) _ (getD_i64 hn _)
theorem UOk.fn {u : UniL} (h : UOk u) {k : Nat} (hk : k < u.funcs.length) : fnU u k ∈ u.funcs ∧ bodyE u (fnU u k) = 0 ∧ 1 ≤ (fnU u k).blocks.length ∧ (fnU u k).blocks.length ≤ 40 ∧ 0 ≤ (fnU u k).regs ∧ (fnU u k).regs ≤ 100 ∧ manyL (fnU u k) ≤ 300 := by
 have h1 := h.chk.fn hk
 rw [fnU_get hk]
 exact ⟨List.getElem_mem hk, h.chk.bodyZ hk, h1.2.2.1.1, h1.2.2.1.2, by omega, h1.2.1.2, h1.2.2.2⟩
theorem UOk.fin {u : UniL} (h : UOk u) {f : FrL} (hf : FrOk u f) : EndOk (fnU u f.fn) (topB u f).fin ∧ I64 (topB u f).fin.onn := by
 obtain ⟨h1, h2, _⟩ := h.fn hf.fn
 unfold topB
 rw [blF_get hf.block]
 exact ⟨endL_zero (bodyE_end h2 hf.block), h.i64.fin _ h1 _ (List.getElem_mem _)⟩
theorem UOk.ins {u : UniL} (h : UOk u) {f : FrL} (hf : FrOk u f) {x : InsL} (hx : x ∈ (topB u f).list) : InsOk u (fnU u f.fn) x ∧ I64 x.an ∧ I64 x.bn ∧ ∀ v ∈ x.args, I64 v.2 := by
 obtain ⟨h1, h2, _⟩ := h.fn hf.fn
 unfold topB at hx
 rw [blF_get hf.block] at hx
 exact ⟨insL_zero ((bodyE_blk h2 hf.block).2 x hx), h.i64.ins _ h1 _ (List.getElem_mem _) x hx⟩
theorem UOk.phi {u : UniL} (h : UOk u) {k b : Nat} (hk : k < u.funcs.length) (hb : b < (fnU u k).blocks.length) {p : PhiL} (hp : p ∈ (blF (fnU u k) b).phis) : PhiOk (fnU u k) b p ∧ ∀ v ∈ p.src, I64 v.2 := by
 obtain ⟨h1, h2, _⟩ := h.fn hk
 rw [blF_get hb] at hp
 exact ⟨phiL_zero ((bodyE_blk h2 hb).1 p hp), h.i64.phi _ h1 _ (List.getElem_mem _) p hp⟩
theorem UOk.to {u : UniL} (h : UOk u) {f : FrL} (hf : FrOk u f) {t : Int} (ht : t ∈ (topB u f).fin.to) : 1 ≤ t ∧ t < (fnU u f.fn).blocks.length ∧ fromL (fnU u f.fn) t.toNat f.block < (rowOf (waysL (fnU u f.fn)) t.toNat).length := by
 have h1 := (h.fin hf).1.to t ht
 unfold topB at ht
 rw [blF_get hf.block] at ht
 exact ⟨h1.1, h1.2, from_lt hf.block ht⟩
theorem nextL_i64 {u : UniL} (h : UOk u) {k b : Nat} (hk : k < u.funcs.length) (hb : b < (fnU u k).blocks.length) {rs : List Int} (hr : ∀ x ∈ rs, I64 x) (c : Nat) : ∀ x ∈ nextL rs c (blF (fnU u k) b).phis, I64 x := fun x hx => by
 obtain ⟨p, hp, rfl⟩ := List.mem_map.1 hx
 have := (h.phi hk hb hp).2
 refine valL_i64 hr ?_
 rcases Nat.lt_or_ge c p.src.length with g | g
 ·simp only [List.getD, List.getElem?_eq_getElem g, Option.getD_some]
  exact this _ (List.getElem_mem g)
 ·simp only [List.getD, List.getElem?_eq_none g, Option.getD_none]
  exact I64.zero
theorem jumpF_ok {u : UniL} (h : UOk u) {f : FrL} (hf : FrOk u f) {t : Int} (ht : t ∈ (topB u f).fin.to) : FrOk u (jumpF u f t.toNat) := by
 obtain ⟨h1, h2, h3⟩ := h.to hf ht
 have hb : t.toNat < (fnU u f.fn).blocks.length := by omega
 exact ⟨hf.fn, hb, Nat.zero_le _, by show _ = (fnU u f.fn).regs.toNat; rw [← hf.regs]; exact writeL_len _ _ _ _, writeL_i64 _ hf.i64 (nextL_i64 h hf.fn hb hf.i64 _) _⟩
theorem DstOk.tail {f : FrL} {l : List FrL} (h : DstOk (f :: l)) : DstOk l := by
 cases l with
 | nil => trivial
 | cons g r => exact h.2
theorem DstOk.head {f g : FrL} {l : List FrL} (h : DstOk (f :: l)) (e : g.dst = f.dst) : DstOk (g :: l) := by
 cases l with
 | nil => trivial
 | cons x r => exact ⟨by rw [e]; exact h.1, h.2⟩
theorem FrOk.put {u : UniL} {f : FrL} (hf : FrOk u f) (d : Int) {n : Int} (hn : I64 n) : FrOk u { f with regs := setL f.regs d n } :=
 ⟨hf.fn, hf.block, hf.pos, (setL_len _ _ _).trans hf.regs, setL_i64 hf.i64 _ hn⟩
structure StOk' (u : UniL) (s : StL) : Prop where
 frs : ∀ f ∈ s.frames, FrOk u f
 dst : DstOk s.frames
 few : s.frames.length ≤ 30
 outs : s.outs.length ≤ 200
 outI : ∀ x ∈ s.outs, I64 x
 mem : s.mem.length ≤ 200
 memI : ∀ x ∈ s.mem, I64 x
 inpI : ∀ x ∈ s.inp, I64 x
 cnt : ∀ k b, 0 ≤ s.cnt k b ∧ s.cnt k b ≤ s.steps
 val : I64 s.value
theorem StOk'.ok {u : UniL} {s : StL} (h : StOk' u s) : StOk u s := ⟨h.frs, h.dst, h.few, h.outs, h.outI, h.mem, h.memI, h.inpI, fun k b => ⟨(h.cnt k b).1, by have := (h.cnt k b).2; omega⟩, h.val⟩
theorem StOk'.put {u : UniL} {s : StL} (h : StOk' u s) (d : Int) {n : Int} (hn : I64 n) : StOk' u (putS s d n) := by
 unfold putS
 cases hs : s.frames with
 | nil => exact h
 | cons f rest =>
  have h1 := h.frs
  have h2 := h.dst
  have h3 := h.few
  rw [hs] at h1 h2 h3
  refine ⟨fun g hg => ?_, ?_, h3, h.outs, h.outI, h.mem, h.memI, h.inpI, h.cnt, h.val⟩
  ·rcases List.mem_cons.1 hg with e | e
   ·rw [e]; exact (h1 f List.mem_cons_self).put d hn
   ·exact h1 g (List.mem_cons_of_mem _ e)
  ·exact h2.head rfl
theorem jumpS_eq {u : UniL} {s : StL} {f : FrL} {rest : List FrL} (hs : s.frames = f :: rest) (t : Nat) : jumpS u s t = { s with frames := jumpF u f t :: rest, cnt := bump s.cnt f.fn t } := by
 unfold jumpS
 rw [hs]
theorem putS_eq {s : StL} {f : FrL} {rest : List FrL} (hs : s.frames = f :: rest) (d n : Int) : putS s d n = { s with frames := { f with regs := setL f.regs d n } :: rest } := by
 unfold putS
 rw [hs]
theorem StOk'.jump {u : UniL} (hu : UOk u) {s : StL} (h : StOk' u s) {f : FrL} {rest : List FrL} (hs : s.frames = f :: rest) {t : Int} (ht : t ∈ (topB u f).fin.to) : StOk u (jumpS u s t.toNat) := by
 rw [jumpS_eq hs]
 have h1 := h.frs
 have h2 := h.dst
 have h3 := h.few
 rw [hs] at h1 h2 h3
 refine ⟨fun g hg => ?_, ?_, h3, h.outs, h.outI, h.mem, h.memI, h.inpI, fun k b => ?_, h.val⟩
 ·rcases List.mem_cons.1 hg with e | e
  ·rw [e]; exact jumpF_ok hu (h1 f List.mem_cons_self) ht
  ·exact h1 g (List.mem_cons_of_mem _ e)
 ·exact h2.head rfl
 ·have := h.cnt k b
  show 0 ≤ bump s.cnt f.fn t.toNat k b ∧ bump s.cnt f.fn t.toNat k b ≤ (s.steps : Int) + 1
  unfold bump
  split <;> omega
theorem enter_regs (args : List Int) (n : Nat) (h : args.length ≤ n) : (args ++ List.replicate (n - args.length) 0).length = n := by simp; omega
theorem enterF_ok {u : UniL} (hu : UOk u) {k : Nat} (hk : k < u.funcs.length) {args : List Int} (ha : args.length ≤ (fnU u k).regs.toNat) (hi : ∀ x ∈ args, I64 x) (d : Int) : FrOk u ⟨k, 0, 0, args ++ List.replicate ((fnU u k).regs.toNat - args.length) 0, d⟩ := by
 obtain ⟨_, _, h3, _⟩ := hu.fn hk
 refine ⟨hk, h3, Nat.zero_le _, enter_regs _ _ ha, fun x hx => ?_⟩
 rcases List.mem_append.1 hx with g | g
 ·exact hi x g
 ·rw [(List.mem_replicate.1 g).2]; exact I64.zero
theorem StOk'.enter {u : UniL} (hu : UOk u) {s : StL} (h : StOk' u s) (hl : s.frames.length < 30) {k : Nat} (hk : k < u.funcs.length) {args : List Int} (ha : args.length ≤ (fnU u k).regs.toNat) (hi : ∀ x ∈ args, I64 x) {d : Int} (hd : ∀ f rest, s.frames = f :: rest → -1 ≤ d ∧ d < f.regs.length) : StOk u (enterS u s k d args) := by
 refine ⟨fun g hg => ?_, ?_, by simp [enterS]; omega, h.outs, h.outI, h.mem, h.memI, h.inpI, fun x y => ?_, h.val⟩
 ·rcases List.mem_cons.1 hg with e | e
  ·rw [e]; exact enterF_ok hu hk ha hi d
  ·exact h.frs g e
 ·show DstOk (_ :: s.frames)
  have h2 := h.dst
  cases hs : s.frames with
  | nil => trivial
  | cons f rest =>
   rw [hs] at h2
   exact ⟨hd f rest hs, h2⟩
 ·have := h.cnt x y
  show 0 ≤ bump s.cnt k 0 x y ∧ bump s.cnt k 0 x y ≤ (s.steps : Int) + 1
  unfold bump
  split <;> omega
theorem wrap64_in64 (n : Int) : I64 (wrap64 n) := by unfold I64 wrap64; omega
theorem bits_in64 (o : BinOp) (a b : Int) : I64 (bits o .i64 a b) := by
 have h : ∀ x : Int, I64 (IntKind.i64.wrap x) := fun x => by rw [IntKind.wrap_i64]; unfold I64; omega
 unfold bits
 exact h _
theorem div_in64 {a : Int} (h : I64 a) (k : Nat) : I64 (a / 2 ^ k) := by
 have hm : (1 : Int) ≤ 2 ^ k := by
  have : (0 : Int) < 2 ^ k := Int.pow_pos (by omega)
  omega
 unfold I64 at *
 have e := Int.mul_ediv_add_emod a (2 ^ k)
 have r0 := Int.emod_nonneg a (show (2 : Int) ^ k ≠ 0 by omega)
 have r1 := Int.emod_lt_of_pos a (show (0 : Int) < 2 ^ k by omega)
 generalize (2 : Int) ^ k = m at *
 generalize a / m = q at *
 constructor
 ·rcases Int.lt_or_le q (-9223372036854775808) with g | g
  ·have h1 : m * (q + 1) ≤ m * (-9223372036854775808) := Int.mul_le_mul_of_nonneg_left (by omega) (by omega)
   have h2 : m * (-9223372036854775808) ≤ -9223372036854775808 := by omega
   rw [Int.mul_add] at h1
   omega
  ·exact g
 ·rcases Int.lt_or_le 9223372036854775807 q with g | g
  ·have h1 : m * 9223372036854775808 ≤ m * q := Int.mul_le_mul_of_nonneg_left (by omega) (by omega)
   omega
  ·exact g
theorem tmod_in64 {a b : Int} (ha : I64 a) : I64 (a.tmod b) := by
 unfold I64 at *
 have h1 : (a.tmod b).natAbs ≤ a.natAbs := by rw [Int.natAbs_tmod]; exact Nat.mod_le _ _
 by_cases h : 0 ≤ a
 ·have h2 := Int.tmod_nonneg b h
  omega
 ·have h2 := Int.tmod_nonneg b (a := -a) (by omega)
  rw [Int.neg_tmod] at h2
  omega
theorem twoL_in64 {op a b : Int} (ha : I64 a) : I64 (twoL op a b).1 := by
 have ite_i : ∀ {c : Prop} [Decidable c] {x y : Int × Bool}, I64 x.1 → I64 y.1 → I64 (if c then x else y).1 := by
  intro c _ x y hx hy
  by_cases hc : c
  ·rw [if_pos hc]; exact hx
  ·rw [if_neg hc]; exact hy
 have small : ∀ n : Int, -1 ≤ n → n ≤ 1 → I64 n := fun n h1 h2 => by unfold I64; omega
 unfold twoL
 repeat' (refine ite_i ?_ ?_)
 all_goals dsimp only
 all_goals first
  | with_reducible exact ha
  | with_reducible exact wrap64_in64 _
  | with_reducible exact bits_in64 _ _ _
  | with_reducible exact tmod_in64 ha
  | with_reducible exact div_in64 ha _
  | (refine small _ ?_ ?_ <;> (try split) <;> omega)
  | (unfold I64 at *; omega)

theorem StOk.tick {u : UniL} {s : StL} (h : StOk u s) : StOk' u { s with steps := s.steps + 1 } :=
 ⟨h.frs, h.dst, h.few, h.outs, h.outI, h.mem, h.memI, h.inpI, fun k b => by have := h.cnt k b; show 0 ≤ s.cnt k b ∧ s.cnt k b ≤ ((s.steps + 1 : Nat) : Int); omega, h.val⟩
theorem topR_i64 {u : UniL} {s : StL} (h : ∀ f ∈ s.frames, FrOk u f) : ∀ x ∈ topR s, I64 x := by
 unfold topR
 cases hs : s.frames with
 | nil => intro x hx; cases hx
 | cons f rest => exact (h f (by rw [hs]; exact List.mem_cons_self)).i64
theorem getD_mem {α : Type} {l : List α} {i : Nat} {d : α} (h : i < l.length) : l.getD i d ∈ l := by
 simp only [List.getD, List.getElem?_eq_getElem h, Option.getD_some]
 exact List.getElem_mem h
theorem end_ok {u : UniL} (hu : UOk u) {s : StL} (h : StOk' u s) {f : FrL} {rest : List FrL} (hs : s.frames = f :: rest) : StOk u (endS u s (topB u f).fin).1 := by
 have hf := h.frs f (by rw [hs]; exact List.mem_cons_self)
 obtain ⟨he, hn⟩ := hu.fin hf
 have hlen := he.len
 have hv : I64 (valL f.regs (topB u f).fin.onr (topB u f).fin.onn) := valL_i64 hf.i64 hn
 unfold endS
 split
 ·exact h.jump hu hs (getD_mem (by omega))
 split
 ·show StOk u (jumpS u s _)
  split
  ·exact h.jump hu hs (getD_mem (by omega))
  ·exact h.jump hu hs (getD_mem (by omega))
 have h1 := h.frs
 have h2 := h.dst
 have h3 := h.few
 rw [hs] at h1 h2 h3
 cases rest with
 | nil =>
  rw [hs]
  show StOk u { s with frames := [], value := valL f.regs (topB u f).fin.onr (topB u f).fin.onn, state := 0 }
  exact ⟨fun g hg => absurd hg (by simp), trivial, Nat.zero_le _, h.outs, h.outI, h.mem, h.memI, h.inpI, h.ok.cnt, hv⟩
 | cons g rest =>
  rw [hs]
  have hb : StOk' u { s with frames := g :: rest } := ⟨fun x hx => h1 x (List.mem_cons_of_mem _ hx), h2.tail, by simp at h3 ⊢; omega, h.outs, h.outI, h.mem, h.memI, h.inpI, h.cnt, h.val⟩
  exact (hb.put _ hv).ok
theorem ins_ok {u : UniL} (hu : UOk u) {s : StL} (h : StOk' u s) {f : FrL} {rest : List FrL} (hs : s.frames = f :: rest) {x : InsL} (hx : x ∈ (topB u f).list) : StOk u (insS u s x).1 := by
 have hf := h.frs f (by rw [hs]; exact List.mem_cons_self)
 obtain ⟨hi, ha, hb, hargs⟩ := hu.ins hf hx
 have ht := topR_i64 h.frs
 have hA : I64 (valL (topR s) x.ar x.an) := valL_i64 ht ha
 have hB : I64 (valL (topR s) x.br x.bn) := valL_i64 ht hb
 have hstop : ∀ n, StOk u { s with state := n } := fun n => ⟨h.frs, h.dst, h.few, h.outs, h.outI, h.mem, h.memI, h.inpI, h.ok.cnt, h.val⟩
 unfold insS
 split
 ·split
  ·exact hstop _
  split
  ·exact ⟨h.frs, h.dst, h.few, h.outs, h.outI, by simp; exact h.mem, set_i64 h.memI _ hB, h.inpI, h.ok.cnt, h.val⟩
  ·exact (h.put _ (getD_i64 h.memI _)).ok
 split
 ·rename_i hop
  split
  ·exact hstop _
  ·rename_i hl
   obtain ⟨h1, h2⟩ := hi.call hop
   have hk : x.fn.toNat < u.funcs.length := by omega
   obtain ⟨_, _, _, _, hr0, _, _⟩ := hu.fn hk
   have hp := (hu.chk.fn hk).2.1.1
   have hpar : parU u x.fn.toNat = u.funcs[x.fn.toNat].params := by unfold parU; simp [List.getD, hk]
   refine h.enter hu (by have := h.few; omega) hk (args := x.args.map fun v => valL (topR s) v.1 v.2) ?_ (fun y hy => ?_) (fun g r hgr => ?_)
   ·rw [List.length_map, fnU_get hk]; rw [fnU_get hk] at hr0; omega
   ·obtain ⟨v, hv, rfl⟩ := List.mem_map.1 hy
    exact valL_i64 ht (hargs v hv)
   ·rw [hs] at hgr
    cases hgr
    have := hi.dst
    have := hf.regs
    omega
 split
 ·split
  ·exact (h.put _ (by unfold I64; omega)).ok
  ·rename_i n l hl
   have hI := h.inpI
   rw [hl] at hI
   have hb : StOk' u { s with inp := l } := ⟨h.frs, h.dst, h.few, h.outs, h.outI, h.mem, h.memI, fun y hy => hI y (List.mem_cons_of_mem _ hy), h.cnt, h.val⟩
   exact (hb.put _ (hI n List.mem_cons_self)).ok
 split
 ·split
  ·exact hstop _
  ·rename_i hl
   refine ⟨h.frs, h.dst, h.few, by have := h.outs; simp; omega, fun y hy => ?_, h.mem, h.memI, h.inpI, h.ok.cnt, h.val⟩
   rcases List.mem_append.1 hy with g | g
   ·exact h.outI y g
   ·rw [List.mem_singleton.1 g]; exact hA
 split
 ·exact hstop _
 ·exact (h.put _ (twoL_in64 hA)).ok
theorem step_ok {u : UniL} (hu : UOk u) {s : StL} (h : StOk u s) : StOk u (stepS u s).1 := by
 unfold stepS
 cases hs : s.frames with
 | nil => exact h
 | cons f rest =>
  have hf := h.frs f (by rw [hs]; exact List.mem_cons_self)
  have ht := h.tick
  simp only
  split
  ·rw [← hs]
   exact end_ok hu ht (f := f) (rest := rest) hs
  ·rename_i hp
   have hlt : f.pos < (topB u f).list.length := by have := hf.pos; omega
   have h1 := ht.frs
   have h2 := ht.dst
   have h3 := ht.few
   simp only [hs] at h1 h2 h3
   have hb : StOk' u { s with steps := s.steps + 1, frames := { f with pos := f.pos + 1 } :: rest } :=
    ⟨fun g hg => by
     rcases List.mem_cons.1 hg with e | e
     ·rw [e]; exact ⟨hf.fn, hf.block, hlt, hf.regs, hf.i64⟩
     ·exact h1 g (List.mem_cons_of_mem _ e), h2.head rfl, h3, ht.outs, ht.outI, ht.mem, ht.memI, ht.inpI, ht.cnt, ht.val⟩
   exact ins_ok hu hb (f := { f with pos := f.pos + 1 }) (rest := rest) rfl (getD_mem hlt)
theorem memU_ok {u : UniL} (hu : UOk u) : (memU u).length ≤ 200 ∧ ∀ x ∈ memU u, I64 x := by
 have h1 : ∀ k, k ≤ u.globals.length → (((u.globals.take k).flatMap memG).length : Int) = wordsTo u k := by
  intro k
  induction k with
  | zero => intro _; simp [wordsTo]
  | succ k ih =>
   intro hk
   have h1 := gloE_zero ((gloI_eq (by omega)).symm.trans (hu.chk.glo k (by omega)))
   rw [wordsTo_succ (by omega), ← ih (by omega), List.take_succ_eq_append_getElem (by omega), List.flatMap_append]
   simp [memG]
   omega
 constructor
 ·have h2 := h1 _ (Nat.le_refl _)
  rw [List.take_length] at h2
  have := (hu.chk.words _ (Nat.le_refl _)).2
  unfold memU
  omega
 ·intro x hx
  obtain ⟨g, hg, hx⟩ := List.mem_flatMap.1 hx
  rcases List.mem_append.1 hx with e | e
  ·exact hu.i64.init g hg x e
  ·rw [(List.mem_replicate.1 e).2]; exact I64.zero
theorem start_ok {u : UniL} (hu : UOk u) {inp : List Int} (hi : ∀ x ∈ inp, I64 x) {m : Nat} (hm : m < u.funcs.length) : StOk u (startS u inp m) := by
 have hb : StOk' u ⟨memU u, inp, 0, 0, [], 0, [], fun _ _ => 0⟩ := ⟨fun g hg => absurd hg (by simp), trivial, Nat.zero_le _, Nat.zero_le _, fun x hx => absurd hx (by simp), (memU_ok hu).1, (memU_ok hu).2, hi, fun k b => ⟨Int.le_refl _, by simp⟩, I64.zero⟩
 exact hb.enter hu (by simp) hm (by simp) (fun x hx => absurd hx (by simp)) (fun f r h => absurd h (by simp))
theorem go_ok {u : UniL} (hu : UOk u) : ∀ (n : Nat) {s : StL}, StOk u s → StOk u (goS u n s)
 | 0, s, h => ⟨h.frs, h.dst, h.few, h.outs, h.outI, h.mem, h.memI, h.inpI, h.cnt, h.val⟩
 | n + 1, s, h => by
  unfold goS
  split
  ·exact go_ok hu n (step_ok hu h)
  ·exact step_ok hu h
theorem putS_ne {s : StL} (d n : Int) (h : s.frames ≠ []) : (putS s d n).frames ≠ [] := by
 unfold putS
 cases hs : s.frames with
 | nil => exact absurd hs h
 | cons f rest => simp
theorem jumpS_ne {u : UniL} {s : StL} (t : Nat) (h : s.frames ≠ []) : (jumpS u s t).frames ≠ [] := by
 unfold jumpS
 cases hs : s.frames with
 | nil => exact absurd hs h
 | cons f rest => simp
theorem end_more {u : UniL} {s : StL} {e : EndL} (h : (endS u s e).2 = true) (hs : s.frames ≠ []) : (endS u s e).1.frames ≠ [] := by
 unfold endS at h ⊢
 split
 ·exact jumpS_ne _ hs
 split
 ·exact jumpS_ne _ hs
 rename_i h1 h2
 rw [if_neg h1, if_neg h2] at h
 split at h
 ·cases h
 ·cases h
 ·rename_i f g rest hf
  exact putS_ne _ _ (by simp)
theorem ins_more {u : UniL} {s : StL} {x : InsL} (hs : s.frames ≠ []) : (insS u s x).1.frames ≠ [] := by
 unfold insS
 repeat' (first | (split; done) | split)
 all_goals first | exact hs | exact putS_ne _ _ hs | (unfold enterS; simp; done) | (apply putS_ne; exact hs)
theorem step_more {u : UniL} {s : StL} (h : (stepS u s).2 = true) (hs : s.frames ≠ []) : (stepS u s).1.frames ≠ [] := by
 unfold stepS at h ⊢
 cases hf : s.frames with
 | nil => exact absurd hf hs
 | cons f rest =>
  rw [hf] at h
  simp only at h ⊢
  split
  ·rename_i hp
   rw [if_pos hp] at h
   exact end_more h (by simp)
  ·exact ins_more (by simp)
end Go.Proofs.YtdjamkinijhjoaaDoor
