/-
  Plain: blocks in reverse post-order, their places; what dom.TreeOf's rounds rest on.
  Plain: one round of dom.TreeOf.
  Plain: dom.TreeOf: rounds until nothing changes.
  Plain: what a run of a unit does, step by step; and what holds of it all along, of a unit whose check tells no fault.
  Plain: what a function of a fine unit is, as far as its blocks' graph goes; places in an order, filled one by one.
-/
import Derived.Test.YtdjamkinijhjoaaDoorJOwnA
import Derived.Test.YtdjamkinijhjoaaDoorJDomK
import Derived.Test.YtdjamkinijhjoaaDoorJDomA
namespace Go.Proofs.YtdjamkinijhjoaaDoor

theorem Beh.at {tos : Nat → List Int} {P : Nat → Prop} : ∀ {l : List Nat}, Beh tos P l → ∀ i (h : i < l.length), P l[i] ∨ ∃ j, ∃ h2 : j < l.length, i < j ∧ (l[i] : Int) ∈ tos l[j]
 | [], _, i, h => by simp at h
 | x :: l, hB, 0, h => by
  rcases hB.1 with g | ⟨p, hp, e⟩
  ·exact .inl g
  ·obtain ⟨k, hk, rfl⟩ := List.getElem_of_mem hp
   exact .inr ⟨k + 1, by simp; omega, by omega, by simpa using e⟩
 | x :: l, hB, i + 1, h => by
  rcases hB.2.at i (by simpa using h) with g | ⟨j, hj, hl, e⟩
  ·exact .inl (by simpa using g)
  ·exact .inr ⟨j + 1, by simp; omega, by omega, by simpa using e⟩

def plN (o : List Nat) (b : Nat) : Nat := if b ∈ o then o.idxOf b else 0
theorem plN_at {o : List Nat} (ho : o.Nodup) {i : Nat} (h : i < o.length) : plN o o[i] = i := by
 unfold plN
 rw [if_pos (List.getElem_mem h)]
 exact ho.idxOf_getElem i h

structure OrdOk (bs : List BlkL) (o : List Nat) : Prop where
 ints : orderB bs = o.map fun (x : Nat) => (x : Int)
 once : o.Nodup
 root : ∃ l, o = 0 :: l
 inb : ∀ x ∈ o, x < bs.length
 par : ∀ i (h : i < o.length), o[i] ≠ 0 → ∃ j, ∃ h2 : j < o.length, j < i ∧ (o[i] : Int) ∈ tosB bs o[j]

theorem orderB_ok {bs : List BlkL} (h0 : 0 < bs.length) (hT : ∀ b, b < bs.length → ∀ x ∈ tosB bs b, 0 ≤ x ∧ x < (bs.length : Int)) : ∃ o, OrdOk bs o := by
 obtain ⟨l, h1, h2, h3, h4⟩ := postL_is h0 hT
 refine ⟨(l ++ [0]).reverse, by unfold orderB; rw [h1, List.map_reverse], by unfold List.Nodup; exact List.pairwise_reverse.2 (h2.imp fun h => Ne.symm h), ⟨l.reverse, by simp⟩, fun x hx => h3 x (List.mem_reverse.1 hx), fun i h hne => ?_⟩
 rw [List.length_reverse] at h
 have e : ∀ k (hk : k < (l ++ [0]).length) (hk2 : k < (l ++ [0]).reverse.length), (l ++ [0]).reverse[k] = (l ++ [0])[(l ++ [0]).length - 1 - k] := fun k hk hk2 => List.getElem_reverse _
 rw [e i h] at hne
 rcases h4.at ((l ++ [0]).length - 1 - i) (by omega) with g | ⟨j, hj, hl, g⟩
 ·exact absurd g hne
 ·refine ⟨(l ++ [0]).length - 1 - j, by rw [List.length_reverse]; omega, by omega, ?_⟩
  rw [e i h, e _ (by omega)]
  have e2 : (l ++ [0]).length - 1 - ((l ++ [0]).length - 1 - j) = j := by omega
  simp only [e2]
  exact g

theorem OrdOk.start {bs : List BlkL} {o : List Nat} (h : OrdOk bs o) (ins : Nat → List Nat) (hins : ∀ (b c : Nat), b < bs.length → (c : Int) ∈ tosB bs b → b ∈ ins c) {up : Nat → Nat} (hu : up 0 = 0) :
  ∃ par, DomJ (fun b => b ∈ o) (plN o) ins par 1 (fun a => a = 0) up := by
 obtain ⟨l, hl⟩ := h.root
 have h0 : 0 ∈ o := by rw [hl]; simp
 have hpar : ∀ c, ∃ p, c ∈ o → c ≠ 0 → p ∈ ins c ∧ p ∈ o ∧ plN o p < plN o c := fun c => by
  by_cases hc : c ∈ o
  ·obtain ⟨i, hi, rfl⟩ := List.getElem_of_mem hc
   by_cases hne : o[i] = 0
   ·exact ⟨0, fun _ g => absurd hne g⟩
   ·obtain ⟨j, hj, hlt, e⟩ := h.par i hi hne
    exact ⟨o[j], fun _ _ => ⟨hins _ _ (h.inb _ (List.getElem_mem hj)) e, List.getElem_mem hj, by rw [plN_at h.once hi, plN_at h.once hj]; exact hlt⟩⟩
  ·exact ⟨0, fun g => absurd g hc⟩
 refine ⟨fun c => (hpar c).choose, DomJ.start (fun a b ha hb e => ?_) h0 ?_ (fun c hc hne => (hpar c).choose_spec hc hne) hu⟩
 ·obtain ⟨i, hi, rfl⟩ := List.getElem_of_mem ha
  obtain ⟨j, hj, rfl⟩ := List.getElem_of_mem hb
  rw [plN_at h.once hi, plN_at h.once hj] at e
  subst e; rfl
 ·have := plN_at h.once (i := 0) (by rw [hl]; simp)
  simpa [hl] using this
end Go.Proofs.YtdjamkinijhjoaaDoor
namespace Go.Proofs.YtdjamkinijhjoaaDoor

def turnT (pl : Nat → Nat) (ins : Nat → List Nat) (u : Nat → Int) (c : Nat) : Nat → Int := putI u c (bestsI u pl (ins c))
def roundT (pl : Nat → Nat) (ins : Nat → List Nat) (o : List Nat) (u : Nat → Int) : Nat → Nat → Int
 | 0 => u
 | 1 => u
 | i + 2 => turnT pl ins (roundT pl ins o u (i + 1)) (o.getD (i + 1) 0)

variable {bs : List BlkL} {o : List Nat} {ins : Nat → List Nat} {par : Nat → Nat} {u : Nat → Int}
theorem OrdOk.round (h : OrdOk bs o) (hJ : DomJ (fun b => b ∈ o) (plN o) ins par 1 (mkN u) (upN u)) : ∀ i, i + 1 ≤ o.length →
  DomJ (fun b => b ∈ o) (plN o) ins par (i + 1) (mkN (roundT (plN o) ins o u (i + 1))) (upN (roundT (plN o) ins o u (i + 1))) ∧
   (roundT (plN o) ins o u (i + 1) = u ∨ ranks (plN o) o.length o (roundT (plN o) ins o u (i + 1)) < ranks (plN o) o.length o u)
 | 0, _ => ⟨hJ, .inl rfl⟩
 | i + 1, hi => by
  obtain ⟨h1, h2⟩ := h.round hJ i (by omega)
  have hlt : i + 1 < o.length := by omega
  have hg : o.getD (i + 1) 0 = o[i + 1] := by
   rw [List.getD_eq_getElem?_getD, List.getElem?_eq_getElem hlt]; rfl
  have hc : o[i + 1] ∈ o := List.getElem_mem hlt
  have hp := plN_at h.once hlt
  have h0 : o[i + 1] ≠ 0 := fun e => by
   obtain ⟨l, hl⟩ := h.root
   have hz := plN_at h.once (i := 0) (by omega)
   have e0 : o[0]'(by omega) = 0 := by simp [hl]
   rw [e0] at hz
   rw [e] at hp
   omega
  show DomJ _ _ _ _ (i + 1 + 1) (mkN (turnT (plN o) ins (roundT (plN o) ins o u (i + 1)) (o.getD (i + 1) 0))) (upN (turnT (plN o) ins (roundT (plN o) ins o u (i + 1)) (o.getD (i + 1) 0))) ∧
   (turnT (plN o) ins (roundT (plN o) ins o u (i + 1)) (o.getD (i + 1) 0) = u ∨ ranks (plN o) o.length o (turnT (plN o) ins (roundT (plN o) ins o u (i + 1)) (o.getD (i + 1) 0)) < ranks (plN o) o.length o u)
  rw [hg]
  unfold turnT
  generalize roundT (plN o) ins o u (i + 1) = v at *
  obtain ⟨m, hm, hb, _, hml⟩ := h1.best hc hp h0
  rw [hm]
  refine ⟨h1.turnI hc hp h0 hb, ?_⟩
  by_cases e : v o[i + 1] = (m : Int)
  ·rw [← e, putI_same]
   exact h2
  ·have h3 := h1.falls (n := o.length) (fun c hc' => by
    obtain ⟨k, hk, rfl⟩ := List.getElem_of_mem hc'
    rw [plN_at h.once hk]; exact hk) hc hp h0 hb hml e o hc
   rcases h2 with h2 | h2
   ·rw [h2] at h3 ⊢; exact .inr h3
   ·exact .inr (Nat.lt_trans h3 h2)
end Go.Proofs.YtdjamkinijhjoaaDoor
namespace Go.Proofs.YtdjamkinijhjoaaDoor

def moreT (pl : Nat → Nat) (ins : Nat → List Nat) (o : List Nat) (u : Nat → Int) : Nat → Bool
 | 0 => false
 | 1 => false
 | i + 2 => moreT pl ins o u (i + 1) || (roundT pl ins o u (i + 1) (o.getD (i + 1) 0) != bestsI (roundT pl ins o u (i + 1)) pl (ins (o.getD (i + 1) 0)))
theorem moreT_succ (pl : Nat → Nat) (ins : Nat → List Nat) (o : List Nat) (u : Nat → Int) (i : Nat) : moreT pl ins o u (i + 2) = (moreT pl ins o u (i + 1) || (roundT pl ins o u (i + 1) (o.getD (i + 1) 0) != bestsI (roundT pl ins o u (i + 1)) pl (ins (o.getD (i + 1) 0)))) := rfl
theorem roundT_succ (pl : Nat → Nat) (ins : Nat → List Nat) (o : List Nat) (u : Nat → Int) (i : Nat) : roundT pl ins o u (i + 2) = putI (roundT pl ins o u (i + 1)) (o.getD (i + 1) 0) (bestsI (roundT pl ins o u (i + 1)) pl (ins (o.getD (i + 1) 0))) := rfl

variable {bs : List BlkL} {o : List Nat} {ins : Nat → List Nat} {par : Nat → Nat} {u : Nat → Int}
theorem OrdOk.getD (h : OrdOk bs o) {i : Nat} (hi : i + 1 < o.length) : o.getD (i + 1) 0 = o[i + 1] ∧ o[i + 1] ∈ o ∧ plN o o[i + 1] = i + 1 ∧ o[i + 1] ≠ 0 ∧ o[i + 1] < bs.length := by
 have hc : o[i + 1] ∈ o := List.getElem_mem hi
 have hp := plN_at h.once hi
 refine ⟨by rw [List.getD_eq_getElem?_getD, List.getElem?_eq_getElem hi]; rfl, hc, hp, fun e => ?_, h.inb _ hc⟩
 obtain ⟨l, hl⟩ := h.root
 have hz := plN_at h.once (i := 0) (by omega)
 have e0 : o[0]'(by omega) = 0 := by simp [hl]
 rw [e0] at hz
 rw [e] at hp
 omega
theorem OrdOk.pos (h : OrdOk bs o) : 0 < o.length := by
 obtain ⟨l, hl⟩ := h.root
 rw [hl]; simp
theorem OrdOk.lt (h : OrdOk bs o) {c : Nat} (hc : c ∈ o) : plN o c < o.length := by
 obtain ⟨k, hk, rfl⟩ := List.getElem_of_mem hc
 rw [plN_at h.once hk]; exact hk

theorem OrdOk.round2 (h : OrdOk bs o) (hJ : DomJ (fun b => b ∈ o) (plN o) ins par 1 (mkN u) (upN u)) : ∀ i, i + 1 ≤ o.length →
  (moreT (plN o) ins o u (i + 1) = false ∧ roundT (plN o) ins o u (i + 1) = u) ∨ (moreT (plN o) ins o u (i + 1) = true ∧ ranks (plN o) o.length o (roundT (plN o) ins o u (i + 1)) < ranks (plN o) o.length o u)
 | 0, _ => .inl ⟨rfl, rfl⟩
 | i + 1, hi => by
  have h1 := (h.round hJ i (by omega)).1
  have h2 := h.round2 hJ i (by omega)
  obtain ⟨hg, hc, hp, h0, _⟩ := h.getD (i := i) (by omega)
  rw [moreT_succ, roundT_succ, hg]
  generalize roundT (plN o) ins o u (i + 1) = v at *
  obtain ⟨m, hm, hb, _, hml⟩ := h1.best hc hp h0
  rw [hm]
  by_cases e : v o[i + 1] = (m : Int)
  ·rw [← e, putI_same]
   simpa using h2
  ·have h3 := h1.falls (n := o.length) (fun c hc' => h.lt hc') hc hp h0 hb hml e o hc
   right
   refine ⟨by simp [e], ?_⟩
   rcases h2 with ⟨_, h2⟩ | ⟨_, h2⟩
   ·rw [h2] at h3 ⊢; exact h3
   ·exact Nat.lt_trans h3 h2
theorem OrdOk.least (h : OrdOk bs o) (hJ : DomJ (fun b => b ∈ o) (plN o) ins par 1 (mkN u) (upN u)) (hu : ∀ c, -1 ≤ u c ∧ u c < bs.length) : ∀ i, i + 1 ≤ o.length → ∀ c, -1 ≤ roundT (plN o) ins o u (i + 1) c ∧ roundT (plN o) ins o u (i + 1) c < bs.length
 | 0, _ => hu
 | i + 1, hi => by
  have h1 := (h.round hJ i (by omega)).1
  have h2 := h.least hJ hu i (by omega)
  obtain ⟨hg, hc, hp, h0, _⟩ := h.getD (i := i) (by omega)
  rw [roundT_succ, hg]
  generalize roundT (plN o) ins o u (i + 1) = v at *
  obtain ⟨m, hm, hb, hmk, hml⟩ := h1.best hc hp h0
  rw [hm]
  have := h.inb _ (h1.reach _ hmk)
  intro c
  unfold putI
  split
  ·omega
  ·exact h2 c

def treeN (pl : Nat → Nat) (ins : Nat → List Nat) (o : List Nat) : Nat → (Nat → Int) → Nat → Int
 | 0, u => u
 | k + 1, u => if moreT pl ins o u o.length = true then treeN pl ins o k (roundT pl ins o u o.length) else roundT pl ins o u o.length
def rootI (c : Nat) : Int := if c = 0 then 0 else -1
def ordN (bs : List BlkL) : List Nat := (orderB bs).map Int.toNat
theorem OrdOk.nats (h : OrdOk bs o) : ordN bs = o := by
 unfold ordN
 rw [h.ints, List.map_map]
 exact (List.map_congr_left (g := id) fun x _ => by simp).trans (by simp)
def treeK (ins : Nat → List Nat) (o : List Nat) : Nat → Int := treeN (plN o) ins o (ranks (plN o) o.length o rootI + 1) rootI

structure TreeL (bs : List BlkL) (o : List Nat) (ins : Nat → List Nat) (u : Nat → Int) (k : Nat) : Prop where
 inv : ∃ par, DomJ (fun b => b ∈ o) (plN o) ins par 1 (mkN u) (upN u)
 bd : ∀ c, -1 ≤ u c ∧ u c < bs.length
 fuel : ranks (plN o) o.length o u < k
 same : treeN (plN o) ins o k u = treeK ins o
theorem rootI_mk : mkN rootI = fun a => a = 0 := by
 funext a
 unfold mkN rootI
 split
 ·next e => simp [e]
 ·next e => simp [e]
theorem TreeL.start (h : OrdOk bs o) (hins : ∀ (b c : Nat), b < bs.length → (c : Int) ∈ tosB bs b → b ∈ ins c) (hb : 0 < bs.length) : TreeL bs o ins rootI (ranks (plN o) o.length o rootI + 1) := by
 refine ⟨?_, fun c => by unfold rootI; split <;> omega, by omega, rfl⟩
 rw [rootI_mk]
 exact h.start ins hins (by simp [upN, rootI])
theorem TreeL.wrap {k : Nat} (h : OrdOk bs o) (hL : TreeL bs o ins u k) : (∃ par, DomJ (fun b => b ∈ o) (plN o) ins par 1 (mkN (roundT (plN o) ins o u o.length)) (upN (roundT (plN o) ins o u o.length))) ∧ ∀ c, -1 ≤ roundT (plN o) ins o u o.length c ∧ roundT (plN o) ins o u o.length c < bs.length := by
 obtain ⟨par, hJ⟩ := hL.inv
 have hp := h.pos
 obtain ⟨m, hm⟩ : ∃ m, o.length = m + 1 := ⟨o.length - 1, by omega⟩
 have h1 := (h.round hJ m (by omega)).1
 have h2 := h.least hJ hL.bd m (by omega)
 rw [hm]
 exact ⟨⟨par, h1.wrap fun c hc => by rw [← hm]; exact h.lt hc⟩, h2⟩
theorem TreeL.next {k : Nat} (h : OrdOk bs o) (hL : TreeL bs o ins u (k + 1)) (hm : moreT (plN o) ins o u o.length = true) : TreeL bs o ins (roundT (plN o) ins o u o.length) k := by
 obtain ⟨h1, h2⟩ := hL.wrap h
 refine ⟨h1, h2, ?_, ?_⟩
 ·obtain ⟨par, hJ⟩ := hL.inv
  have hp := h.pos
  obtain ⟨m, hm2⟩ : ∃ m, o.length = m + 1 := ⟨o.length - 1, by omega⟩
  have h3 := h.round2 hJ m (by omega)
  rw [← hm2] at h3
  rcases h3 with ⟨h3, _⟩ | ⟨_, h3⟩
  ·rw [h3] at hm; cases hm
  ·have := hL.fuel; omega
 ·have e := hL.same
  unfold treeN at e
  rw [if_pos hm] at e
  exact e
structure TreeE (bs : List BlkL) (o : List Nat) (ins : Nat → List Nat) (u : Nat → Int) : Prop where
 inv : ∃ par, DomJ (fun b => b ∈ o) (plN o) ins par 1 (mkN u) (upN u)
 bd : ∀ c, -1 ≤ u c ∧ u c < bs.length
 calm : moreT (plN o) ins o u o.length = false
theorem TreeL.last {k : Nat} (h : OrdOk bs o) (hL : TreeL bs o ins u (k + 1)) (hm : moreT (plN o) ins o u o.length = false) : roundT (plN o) ins o u o.length = u ∧ u = treeK ins o ∧ TreeE bs o ins u := by
 obtain ⟨par, hJ⟩ := hL.inv
 have hp := h.pos
 obtain ⟨m, hm2⟩ : ∃ m, o.length = m + 1 := ⟨o.length - 1, by omega⟩
 have h3 := h.round2 hJ m (by omega)
 rw [← hm2] at h3
 have h4 : roundT (plN o) ins o u o.length = u := by
  rcases h3 with ⟨_, h3⟩ | ⟨h3, _⟩
  ·exact h3
  ·rw [h3] at hm; cases hm
 have e := hL.same
 unfold treeN at e
 rw [if_neg (by simp [hm]), h4] at e
 exact ⟨h4, e, hL.inv, hL.bd, hm⟩
end Go.Proofs.YtdjamkinijhjoaaDoor
namespace Go.Proofs.YtdjamkinijhjoaaDoor
open Go.RowKit

def noI : InsL := ⟨0, 0, false, 0, false, 0, 0, []⟩
def noB : BlkL := ⟨[], [], ⟨0, false, 0, []⟩⟩
def noF : FunL := ⟨⟨#[]⟩, 0, 0, []⟩
def fnU (u : UniL) (k : Nat) : FunL := u.funcs.getD k noF
def blF (f : FunL) (b : Nat) : BlkL := f.blocks.getD b noB
theorem fnU_get {u : UniL} {k : Nat} (h : k < u.funcs.length) : fnU u k = u.funcs[k] := by unfold fnU; simp [List.getD, h]
theorem blF_get {f : FunL} {b : Nat} (h : b < f.blocks.length) : blF f b = f.blocks[b] := by unfold blF; simp [List.getD, h]

structure FrL where
 fn : Nat
 block : Nat
 pos : Nat
 regs : List Int
 dst : Int
structure StL where
 mem : List Int
 inp : List Int
 state : Int
 value : Int
 outs : List Int
 steps : Nat
 frames : List FrL
 cnt : Nat → Nat → Int

def valL (rs : List Int) (r : Bool) (n : Int) : Int := if r = true then rs.getD n.toNat 0 else n
def setL (rs : List Int) (dst n : Int) : List Int := if 0 ≤ dst then rs.set dst.toNat n else rs
def bump (c : Nat → Nat → Int) (k b : Nat) : Nat → Nat → Int := fun x y => if x = k ∧ y = b then c x y + 1 else c x y
def nextL (rs : List Int) (k : Nat) (phis : List PhiL) : List Int := phis.map fun p => valL rs (p.src.getD k (false, 0)).1 (p.src.getD k (false, 0)).2
def writeL (phis : List PhiL) (next : List Int) (rs : List Int) : Nat → List Int
 | 0 => rs
 | i + 1 => (writeL phis next rs i).set ((phis.map fun p : PhiL => p.dst).getD i 0).toNat (next.getD i 0)
def fromL (f : FunL) (to block : Nat) : Nat := (rowOf (waysL f) to).idxOf block
def jumpF (u : UniL) (f : FrL) (to : Nat) : FrL :=
 { f with regs := writeL (blF (fnU u f.fn) to).phis (nextL f.regs (fromL (fnU u f.fn) to f.block) (blF (fnU u f.fn) to).phis) f.regs (blF (fnU u f.fn) to).phis.length, block := to, pos := 0 }
def jumpS (u : UniL) (s : StL) (to : Nat) : StL :=
 match s.frames with
 | [] => s
 | f :: rest => { s with frames := jumpF u f to :: rest, cnt := bump s.cnt f.fn to }
def putS (s : StL) (dst n : Int) : StL :=
 match s.frames with
 | [] => s
 | f :: rest => { s with frames := { f with regs := setL f.regs dst n } :: rest }
def enterS (u : UniL) (s : StL) (fn : Nat) (dst : Int) (args : List Int) : StL :=
 { s with frames := ⟨fn, 0, 0, args ++ List.replicate ((fnU u fn).regs.toNat - args.length) 0, dst⟩ :: s.frames, cnt := bump s.cnt fn 0 }
def topR (s : StL) : List Int := match s.frames with | [] => [] | f :: _ => f.regs
def endS (u : UniL) (s : StL) (e : EndL) : StL × Bool :=
 if e.kind = 2 then (jumpS u s (e.to.getD 0 0).toNat, true)
 else if e.kind = 3 then (jumpS u s (if valL (topR s) e.onr e.onn = 0 then e.to.getD 1 0 else e.to.getD 0 0).toNat, true)
 else match s.frames with
 | [] => (s, false)
 | f :: [] => ({ s with frames := [], value := valL f.regs e.onr e.onn, state := 0 }, false)
 | f :: g :: rest => (putS { s with frames := g :: rest } f.dst (valL f.regs e.onr e.onn), true)
def insS (u : UniL) (s : StL) (x : InsL) : StL × Bool :=
 if x.op = 18 ∨ x.op = 19 then
  if ¬(0 ≤ valL (topR s) x.ar x.an ∧ valL (topR s) x.ar x.an < s.mem.length) then ({ s with state := 3 }, false)
  else if x.op = 19 then ({ s with mem := s.mem.set (valL (topR s) x.ar x.an).toNat (valL (topR s) x.br x.bn) }, true)
  else (putS s x.dst (s.mem.getD (valL (topR s) x.ar x.an).toNat 0), true)
 else if x.op = 20 then
  if s.frames.length = 30 then ({ s with state := 4 }, false)
  else (enterS u s x.fn.toNat x.dst (x.args.map fun v => valL (topR s) v.1 v.2), true)
 else if x.op = 21 then
  match s.inp with
  | [] => (putS s x.dst (-1), true)
  | n :: l => (putS { s with inp := l } x.dst n, true)
 else if x.op = 22 then
  if s.outs.length = 200 then ({ s with state := 5 }, false)
  else ({ s with outs := s.outs ++ [valL (topR s) x.ar x.an] }, true)
 else if (twoL x.op (valL (topR s) x.ar x.an) (valL (topR s) x.br x.bn)).2 = false then ({ s with state := 2 }, false)
 else (putS s x.dst (twoL x.op (valL (topR s) x.ar x.an) (valL (topR s) x.br x.bn)).1, true)
def topB (u : UniL) (f : FrL) : BlkL := blF (fnU u f.fn) f.block
def stepS (u : UniL) (s : StL) : StL × Bool :=
 match s.frames with
 | [] => (s, false)
 | f :: rest =>
  if f.pos = (topB u f).list.length then endS u { s with steps := s.steps + 1 } (topB u f).fin
  else insS u { s with steps := s.steps + 1, frames := { f with pos := f.pos + 1 } :: rest } ((topB u f).list.getD f.pos noI)
def goS (u : UniL) : Nat → StL → StL
 | 0, s => { s with state := 1 }
 | n + 1, s => if (stepS u s).2 = true then goS u n (stepS u s).1 else (stepS u s).1
def memG (g : GloL) : List Int := g.init ++ List.replicate (g.size.toNat - g.init.length) 0
def memU (u : UniL) : List Int := u.globals.flatMap memG
def startS (u : UniL) (inp : List Int) (m : Nat) : StL := enterS u ⟨memU u, inp, 0, 0, [], 0, [], fun _ _ => 0⟩ m (-1) []
def runU (u : UniL) (inp : List Int) (fuel : Nat) : StL := goS u fuel (startS u inp ((mainI u.funcs).getD 0))

/-! what a fine unit is -/
theorem ChkOk.bodyZ {u : UniL} (h : ChkOk u) {k : Nat} (hk : k < u.funcs.length) : bodyE u u.funcs[k] = 0 := (bodyI_eq hk).symm.trans (h.body k hk)
theorem bodyE_ends {u : UniL} {f : FunL} (h : bodyE u f = 0) : firstE (f.blocks.map fun b => endL f b.fin) = 0 ∧ firstE ((List.range f.blocks.length).map (blkI u f)) = 0 := by
 unfold bodyE at h
 by_cases e : firstE (f.blocks.map fun b => endL f b.fin) = 0
 ·rw [if_pos e] at h; exact ⟨e, h⟩
 ·rw [if_neg e] at h; exact absurd h e
theorem bodyE_end {u : UniL} {f : FunL} (h : bodyE u f = 0) {b : Nat} (hb : b < f.blocks.length) : endL f f.blocks[b].fin = 0 :=
 firstE_all (bodyE_ends h).1 _ (List.mem_map.2 ⟨_, List.getElem_mem hb, rfl⟩)
theorem bodyE_blk {u : UniL} {f : FunL} (h : bodyE u f = 0) {b : Nat} (hb : b < f.blocks.length) :
  (∀ p ∈ f.blocks[b].phis, phiL f b (rowOf (waysL f) b).length p = 0) ∧ ∀ x ∈ f.blocks[b].list, insL u f x = 0 := by
 have h1 := firstE_all (bodyE_ends h).2 (blkI u f b) (List.mem_map.2 ⟨b, List.mem_range.2 hb, rfl⟩)
 rw [blkI_eq hb] at h1
 unfold blkE at h1
 by_cases e : firstE (f.blocks[b].phis.map (phiL f b (rowOf (waysL f) b).length)) = 0
 ·rw [if_pos e] at h1
  exact ⟨fun p hp => firstE_all e _ (List.mem_map.2 ⟨p, hp, rfl⟩), fun x hx => firstE_all h1 _ (List.mem_map.2 ⟨x, hx, rfl⟩)⟩
 ·rw [if_neg e] at h1; exact absurd h1 e
def ValOk (regs : Int) (r : Bool) (n : Int) : Prop := r = true → 0 ≤ n ∧ n < regs
theorem valE_zero {regs : Int} {r : Bool} {n : Int} (h : valE regs r n = 0) : ValOk regs r n := by
 intro hr
 unfold valE at h
 by_cases e : r = true ∧ ¬(0 ≤ n ∧ n ≤ regs - 1)
 ·rw [if_pos e] at h; cases h
 ·rcases Decidable.em (0 ≤ n ∧ n ≤ regs - 1) with g | g
  ·omega
  ·exact absurd ⟨hr, g⟩ e
theorem dstE_zero {regs n : Int} (h : dstE regs n = 0) : 0 ≤ n ∧ n < regs := by
 unfold dstE at h
 split at h
 ·omega
 ·cases h
structure EndOk (f : FunL) (x : EndL) : Prop where
 kind : x.kind = 1 ∨ x.kind = 2 ∨ x.kind = 3
 len : (x.to.length : Int) = x.kind - 1
 to : ∀ t ∈ x.to, 1 ≤ t ∧ t < f.blocks.length
 on : ValOk f.regs x.onr x.onn
theorem endL_zero {f : FunL} {x : EndL} (h : endL f x = 0) : EndOk f x := by
 have h0 := (endE_zero h).2
 unfold endL endE at h
 by_cases a : 1 ≤ x.kind ∧ x.kind ≤ 3
 ·rw [if_neg (by simpa using a)] at h
  by_cases b : (x.to.length : Int) = x.kind - 1
  ·rw [if_neg (by simpa using b)] at h
   by_cases c : x.to.any (fun t => !wthn t 1 ((f.blocks.length : Int) - 1)) = true
   ·rw [if_pos c] at h; cases h
   ·rw [if_neg c] at h
    split at h
    ·cases h
    ·exact ⟨by omega, b, h0, valE_zero h⟩
  ·rw [if_pos (by simpa using b)] at h; cases h
 ·rw [if_pos (by simpa using a)] at h; cases h
structure PhiOk (f : FunL) (b : Nat) (p : PhiL) : Prop where
 dst : 0 ≤ p.dst ∧ p.dst < f.regs
 len : p.src.length = (rowOf (waysL f) b).length
 src : ∀ v ∈ p.src, ValOk f.regs v.1 v.2
theorem phiL_zero {f : FunL} {b : Nat} {p : PhiL} (h : phiL f b (rowOf (waysL f) b).length p = 0) : PhiOk f b p := by
 unfold phiL phiE at h
 split at h
 ·cases h
 split at h
 ·rename_i h1 h2; exact absurd h h2
 split at h
 ·cases h
 rename_i h1 h2 h3
 exact ⟨dstE_zero (by simpa using h2), by simpa using h3, fun v hv => valE_zero (firstE_all h _ (List.mem_map.2 ⟨v, hv, rfl⟩))⟩
structure InsOk (u : UniL) (f : FunL) (x : InsL) : Prop where
 op : 1 ≤ x.op ∧ x.op ≤ 22
 dst : -1 ≤ x.dst ∧ (x.dst < f.regs ∨ x.dst = -1)
 dst0 : x.op ≠ 19 → x.op ≠ 20 → x.op ≠ 22 → 0 ≤ x.dst
 a : ValOk f.regs x.ar x.an
 b : ValOk f.regs x.br x.bn
 call : x.op = 20 → (0 ≤ x.fn ∧ x.fn < u.funcs.length) ∧ (x.args.length : Int) = parU u x.fn.toNat
 arg : ∀ v ∈ x.args, ValOk f.regs v.1 v.2
theorem insL_zero {u : UniL} {f : FunL} {x : InsL} (h : insL u f x = 0) : InsOk u f x := by
 unfold insL insE at h
 split at h
 ·cases h
 split at h
 ·cases h
 split at h
 ·rename_i h1 h2 h3; exact absurd h h3.2.2
 rename_i h1 h2 h3
 have h1 : 1 ≤ x.op ∧ x.op ≤ 22 := by omega
 have ha := firstE_all h (valE f.regs x.ar x.an) (by simp)
 have hb := firstE_all h (valE f.regs x.br x.bn) (by simp)
 have hc := firstE_all h (callE f.regs u.funcs.length (parU u) (x.op == 20) x.fn x.args) (by simp)
 have hd : (shD x.op = true ∧ ¬(x.op = 20 ∧ x.dst = -1) → 0 ≤ x.dst ∧ x.dst < f.regs) := fun hh => by
  refine dstE_zero ?_
  rcases Decidable.em (dstE f.regs x.dst = 0) with g | g
  ·exact g
  ·exact absurd ⟨hh.1, hh.2, g⟩ h3
 have hs : shD x.op = false → x.dst = -1 := fun hh => by
  rcases Decidable.em (x.dst = -1) with g | g
  ·exact g
  ·exact absurd (.inl ⟨hh, g⟩) h2
 have hca : x.op = 20 → ((0 ≤ x.fn ∧ x.fn < u.funcs.length) ∧ (x.args.length : Int) = parU u x.fn.toNat) ∧ valsE f.regs x.args = 0 := fun hh => by
  unfold callE at hc
  rw [if_neg (by simp [hh])] at hc
  split at hc
  ·cases hc
  split at hc
  ·cases hc
  rename_i g1 g2
  exact ⟨⟨by omega, by omega⟩, hc⟩
 refine ⟨h1, ?_, fun h19 h20 h22 => ?_, valE_zero ha, valE_zero hb, fun hh => (hca hh).1, fun v hv => ?_⟩
 ·cases hD : shD x.op
  ·have := hs hD; omega
  ·rcases Decidable.em (x.op = 20 ∧ x.dst = -1) with g | g
   ·omega
   ·have := hd ⟨hD, g⟩; omega
 ·have hD : shD x.op = true := by unfold shD; rw [decide_eq_true_eq]; omega
  exact (hd ⟨hD, by omega⟩).1
 ·rcases Decidable.em (x.op = 20) with g | g
  ·exact valE_zero (firstE_all (hca g).2 _ (List.mem_map.2 ⟨v, hv, rfl⟩))
  ·have : ¬(x.fn ≠ 0 ∨ 0 < x.args.length) := fun hh => h2 (.inr (.inr (.inr ⟨g, hh⟩)))
   have : x.args.length = 0 := by omega
   rw [List.length_eq_zero_iff] at this
   rw [this] at hv
   cases hv
theorem waysOf_mem (T : List (List Int)) : ∀ (n i : Nat) (t : Int), i < n → t ∈ T.getD i [] → (t.toNat, i) ∈ waysOf T n
 | 0, i, t, h, _ => by omega
 | n + 1, i, t, h, ht => by
  unfold waysOf
  rcases Nat.lt_or_ge i n with g | g
  ·exact List.mem_append_left _ (waysOf_mem T n i t g ht)
  ·obtain rfl : i = n := by omega
   exact List.mem_append_right _ (List.mem_map.2 ⟨t, ht, rfl⟩)
theorem rowOf_mem {ps : List (Nat × Nat)} {t i : Nat} (h : (t, i) ∈ ps) : i ∈ rowOf ps t := by
 unfold rowOf
 exact List.mem_map.2 ⟨(t, i), List.mem_filter.2 ⟨h, by simp⟩, rfl⟩
theorem row_mem {f : FunL} {b : Nat} (hb : b < f.blocks.length) {t : Int} (ht : t ∈ f.blocks[b].fin.to) : b ∈ rowOf (waysL f) t.toNat :=
 rowOf_mem (waysOf_mem _ _ _ _ hb (by rw [tos_getD f b hb]; exact ht))
theorem from_lt {f : FunL} {b : Nat} (hb : b < f.blocks.length) {t : Int} (ht : t ∈ f.blocks[b].fin.to) : fromL f t.toNat b < (rowOf (waysL f) t.toNat).length :=
 List.idxOf_lt_length_iff.2 (row_mem hb ht)
end Go.Proofs.YtdjamkinijhjoaaDoor
namespace Go.Proofs.YtdjamkinijhjoaaDoor
open Go.RowKit

structure FunS (f : FunL) : Prop where
 n1 : 0 < f.blocks.length
 n40 : f.blocks.length ≤ 40
 two : ∀ k (h : k < f.blocks.length), f.blocks[k].fin.to.length ≤ 2
 tos : ∀ k (h : k < f.blocks.length), ∀ t ∈ f.blocks[k].fin.to, 1 ≤ t ∧ t < (f.blocks.length : Int)
theorem ChkOk.funS {u : UniL} (h : ChkOk u) {k : Nat} (hk : k < u.funcs.length) : FunS u.funcs[k] := by
 obtain ⟨_, _, ⟨h3, h4⟩, _⟩ := h.fn hk
 refine ⟨by omega, by omega, fun b hb => ?_, fun b hb => ?_⟩
 ·have e := endL_zero (bodyE_end (h.bodyZ hk) hb)
  have := e.len
  have := e.kind
  omega
 ·exact (endL_zero (bodyE_end (h.bodyZ hk) hb)).to
theorem FunS.tosB {f : FunL} (h : FunS f) : ∀ b, b < f.blocks.length → ∀ x ∈ tosB f.blocks b, 0 ≤ x ∧ x < (f.blocks.length : Int) := fun b hb x hx => by
 rw [tosB_at hb] at hx
 have := h.tos b hb x hx
 omega
theorem FunS.tosD {f : FunL} (h : FunS f) : ∀ i, i < f.blocks.length → ((tosL f).getD i []).length ≤ 2 ∧ ∀ t ∈ (tosL f).getD i [], 1 ≤ t ∧ t < (f.blocks.length : Int) := fun i hi => by
 rw [tos_getD f i hi]
 exact ⟨h.two i hi, h.tos i hi⟩
theorem nodup_len : ∀ (n : Nat) (l : List Nat), l.Nodup → (∀ x ∈ l, x < n) → l.length ≤ n
 | 0, l, _, h => by
  cases l with
  | nil => simp
  | cons x l => have := h x List.mem_cons_self; omega
 | n + 1, l, hd, h => by
  by_cases hn : n ∈ l
  ·have h1 := nodup_len n (l.erase n) (hd.erase n) (fun x hx => by
    have h2 := hd.mem_erase_iff.1 hx
    have := h x h2.2
    have := h2.1
    omega)
   rw [List.length_erase_of_mem hn] at h1
   omega
  ·have h1 := nodup_len n l hd (fun x hx => by
    have := h x hx
    have : x ≠ n := fun e => hn (e ▸ hx)
    omega)
   omega
theorem waysOf_lt {T : List (List Int)} : ∀ {n : Nat} {p : Nat × Nat}, p ∈ waysOf T n → p.2 < n ∧ ∃ t ∈ T.getD p.2 [], p.1 = t.toNat
 | 0, p, h => by unfold waysOf at h; cases h
 | n + 1, p, h => by
  unfold waysOf at h
  rcases List.mem_append.1 h with h | h
  ·obtain ⟨h1, h2⟩ := waysOf_lt h
   exact ⟨by omega, h2⟩
  ·obtain ⟨t, ht, rfl⟩ := List.mem_map.1 h
   exact ⟨by simp, t, ht, rfl⟩
theorem row_lt {f : FunL} {c p : Nat} (h : p ∈ rowOf (waysL f) c) : p < f.blocks.length := by
 unfold rowOf at h
 obtain ⟨q, hq, rfl⟩ := List.mem_map.1 h
 exact (waysOf_lt (List.mem_filter.1 hq).1).1
def insN (f : FunL) (c : Nat) : List Nat := rowOf (waysL f) c
theorem ins_of {f : FunL} (b c : Nat) (hb : b < f.blocks.length) (h : (c : Int) ∈ tosB f.blocks b) : b ∈ insN f c := by
 rw [tosB_at hb] at h
 have := row_mem hb h
 rw [Int.toNat_natCast] at this
 exact this
theorem insN_len {f : FunL} (h : FunS f) (c : Nat) : (insN f c).length ≤ 80 := by
 have h1 := rowOf_le (waysL f) c
 have h2 : (waysL f).length ≤ 2 * f.blocks.length := waysOf_le (tosL f) _ _ (Nat.le_refl _) (fun i hi => (h.tosD i hi).1)
 have := h.n40
 show (rowOf _ _).length ≤ _
 omega
theorem FunS.ord {f : FunL} (h : FunS f) : OrdOk f.blocks (ordN f.blocks) := by
 obtain ⟨o, ho⟩ := orderB_ok h.n1 h.tosB
 rw [ho.nats]
 exact ho
theorem FunS.ordLen {f : FunL} (h : FunS f) : (ordN f.blocks).length ≤ f.blocks.length := nodup_len _ _ h.ord.once h.ord.inb
theorem FunS.postLen {f : FunL} (h : FunS f) : (postL f.blocks).length ≤ 1000000 := by
 have h1 : (orderB f.blocks).length = (ordN f.blocks).length := by unfold ordN; simp
 have h2 : (orderB f.blocks).length = (postL f.blocks).length := by unfold orderB; simp
 have := h.ordLen
 have := h.n40
 omega

def plK (o : List Nat) (k c : Nat) : Nat := if c ∈ o.take k then o.idxOf c else 0
theorem plK_zero (o : List Nat) (c : Nat) : plK o 0 c = 0 := by simp [plK]
theorem plK_full (o : List Nat) (c : Nat) : plK o o.length c = plN o c := by simp [plK, plN]
theorem plK_succ {o : List Nat} (ho : o.Nodup) {k : Nat} (hk : k < o.length) (c : Nat) : plK o (k + 1) c = if c = o[k] then k else plK o k c := by
 have em : c ∈ o.take (k + 1) ↔ c ∈ o.take k ∨ c = o[k] := by
  rw [List.take_succ_eq_append_getElem hk, List.mem_append, List.mem_singleton]
 unfold plK
 by_cases e : c = o[k]
 ·rw [if_pos (em.2 (.inr e)), if_pos e, e]
  exact ho.idxOf_getElem k hk
 ·rw [if_neg e]
  by_cases h : c ∈ o.take k
  ·rw [if_pos (em.2 (.inl h)), if_pos h]
  ·rw [if_neg h, if_neg (fun g => (em.1 g).elim h e)]

theorem DomI.step_mk {R : Nat → Prop} {pl : Nat → Nat} {u : Nat → Int} (h : DomI R pl (mkN u) (upN u)) {b : Int} {p : Nat} (h1 : -1 ≤ b) (hb : 0 ≤ b → mkN u b.toNat) : -1 ≤ bestI u pl b p ∧ (0 ≤ bestI u pl b p → mkN u (bestI u pl b p).toNat) := by
 unfold bestI
 by_cases hp : u p < 0
 ·rw [if_pos hp]; exact ⟨h1, hb⟩
 ·rw [if_neg hp]
  have hm : mkN u p := by unfold mkN; omega
  by_cases h0 : b < 0
  ·rw [if_pos h0]; exact ⟨by omega, fun _ => by simpa using hm⟩
  ·rw [if_neg h0]
   have hmb := hb (by omega)
   have hmeet := h.meet (pl b.toNat + pl p + 1) b.toNat p (by omega) hmb hm
   exact ⟨by omega, fun _ => by simpa using (h.ch hmeet.right hm).1⟩
end Go.Proofs.YtdjamkinijhjoaaDoor
