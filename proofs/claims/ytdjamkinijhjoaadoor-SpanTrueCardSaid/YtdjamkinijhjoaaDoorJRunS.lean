/-
  Plain: a unit that prints a register of a function whenever it is written, and nothing else; what is known at each place of it.
  Plain: which functions a run comes to: none but those that main reaches.
-/
import Derived.Test.YtdjamkinijhjoaaDoorJTruA
import Derived.Test.YtdjamkinijhjoaaDoorJSpnA
import Derived.Test.YtdjamkinijhjoaaDoorJSpnI
import Derived.Test.YtdjamkinijhjoaaDoorJSpnL
import Derived.Test.YtdjamkinijhjoaaDoorRunQ
namespace Go.Proofs.YtdjamkinijhjoaaDoor
open Go.RowKit

def shwI (r : Int) : InsL := ⟨22, -1, true, r, false, 0, 0, []⟩
def watI (k : Bool) (r : Int) (x : InsL) : List InsL := if x.op = 22 then [] else if k = true ∧ x.dst = r then [x, shwI r] else [x]
def watP (k : Bool) (r : Int) (p : PhiL) : List InsL := if k = true ∧ p.dst = r then [shwI r] else []
def watB (k : Bool) (r : Int) (b : BlkL) : BlkL := ⟨b.phis, b.phis.flatMap (watP k r) ++ b.list.flatMap (watI k r), b.fin⟩
def watF (k : Bool) (r : Int) (f : FunL) : FunL := ⟨f.name, f.params, f.regs, f.blocks.map (watB k r)⟩
def watU (u : UniL) (k : Nat) (r : Int) : UniL := ⟨u.globals, u.funcs.mapIdx fun i f => watF (decide (i = k)) r f⟩
theorem wat_len (u : UniL) (k : Nat) (r : Int) : (watU u k r).funcs.length = u.funcs.length := by unfold watU; simp
theorem wat_fn {u : UniL} {k i : Nat} {r : Int} (h : i < u.funcs.length) : fnU (watU u k r) i = watF (decide (i = k)) r (fnU u i) := by
 rw [fnU_get (by rw [wat_len]; exact h), fnU_get h]
 unfold watU
 simp
theorem wat_bl {F : FunL} {kk : Bool} {r : Int} {b : Nat} (h : b < F.blocks.length) : blF (watF kk r F) b = watB kk r (blF F b) := by
 rw [blF_get (by unfold watF; simpa using h), blF_get h]
 unfold watF
 simp
theorem wat_ways (kk : Bool) (r : Int) (F : FunL) : waysL (watF kk r F) = waysL F := by
 have e : tosL (watF kk r F) = tosL F := by
  unfold tosL watF
  rw [List.map_map]
  rfl
 unfold waysL
 rw [e]
 unfold watF
 rw [List.length_map]
theorem flat_at {α β : Type} (g : α → List β) : ∀ (l : List α) (p : Nat), p < (l.flatMap g).length → ∃ j, ∃ hj : j < l.length, ∃ i, ∃ hi : i < (g l[j]).length, (l.flatMap g)[p]? = some (g l[j])[i] ∧ (l.flatMap g).take p = (l.take j).flatMap g ++ (g l[j]).take i
 | [], p, h => by simp at h
 | x :: l, p, h => by
  by_cases hp : p < (g x).length
  ·refine ⟨0, by simp, p, hp, ?_, ?_⟩
   ·rw [List.flatMap_cons, List.getElem?_append_left hp, List.getElem?_eq_getElem hp]
    rfl
   ·rw [List.flatMap_cons, List.take_append_of_le_length (Nat.le_of_lt hp)]
    simp
  ·have h2 : p - (g x).length < (l.flatMap g).length := by rw [List.flatMap_cons, List.length_append] at h; omega
   obtain ⟨j, hj, i, hi, h3, h4⟩ := flat_at g l _ h2
   refine ⟨j + 1, by simpa using hj, i, by simpa using hi, ?_, ?_⟩
   ·rw [List.flatMap_cons, List.getElem?_append_right (by omega), h3]
    rfl
   ·rw [List.flatMap_cons, List.take_append, h4, List.take_of_length_le (by omega)]
    simp
theorem watI_self {kk : Bool} {r : Int} {x : InsL} (h : x.op ≠ 22) : x ∈ watI kk r x := by
 unfold watI
 rw [if_neg h]
 split <;> simp
def Prt (B : BlkL) : Prop := ∀ x ∈ B.list, x.op = 22 → x.dst < 0
theorem wat_all {kk : Bool} {r : Int} {B : BlkL} (hP : Prt B) {x : InsL} (hx : x ∈ B.list) (hd : 0 ≤ x.dst) : x ∈ (watB kk r B).list := by
 refine List.mem_append_right _ (List.mem_flatMap.2 ⟨x, hx, watI_self fun e => ?_⟩)
 have := hP x hx e
 omega
theorem wat_at {kk : Bool} {r : Int} {B : BlkL} (hP : Prt B) {p : Nat} {x : InsL} (h : (watB kk r B).list[p]? = some x) :
  (∃ j, ∃ hj : j < B.list.length, x = B.list[j] ∧ x.op ≠ 22 ∧ ∀ i (hi : i < B.list.length), i < j → 0 ≤ (B.list[i]).dst → B.list[i] ∈ (watB kk r B).list.take p) ∨
  (x = shwI r ∧ kk = true ∧ ((∃ q ∈ B.phis, q.dst = r) ∨ ∃ y ∈ (watB kk r B).list.take p, y.dst = r)) := by
 have hw : (watB kk r B).list = B.phis.flatMap (watP kk r) ++ B.list.flatMap (watI kk r) := rfl
 rw [hw] at h ⊢
 generalize hH : B.phis.flatMap (watP kk r) = H at *
 by_cases hp : p < H.length
 ·right
  rw [List.getElem?_append_left hp] at h
  have hm : x ∈ H := List.mem_of_getElem? h
  rw [← hH] at hm
  obtain ⟨q, hq, hx⟩ := List.mem_flatMap.1 hm
  unfold watP at hx
  split at hx
  ·next hc => exact ⟨List.mem_singleton.1 hx, hc.1, .inl ⟨q, hq, hc.2⟩⟩
  ·cases hx
 ·rw [List.getElem?_append_right (by omega)] at h
  have hl : p - H.length < (B.list.flatMap (watI kk r)).length := by
   by_cases g : p - H.length < (B.list.flatMap (watI kk r)).length
   ·exact g
   ·rw [List.getElem?_eq_none (by omega)] at h; cases h
  obtain ⟨j, hj, i, hi, h3, h4⟩ := flat_at (watI kk r) B.list _ hl
  rw [h3] at h
  have hx : (watI kk r B.list[j])[i] = x := by injection h
  have ht : (H ++ B.list.flatMap (watI kk r)).take p = H ++ ((B.list.take j).flatMap (watI kk r) ++ (watI kk r B.list[j]).take i) := by
   rw [List.take_append, h4, List.take_of_length_le (by omega)]
  rw [ht]
  have before : ∀ i' (hi' : i' < B.list.length), i' < j → 0 ≤ (B.list[i']).dst → B.list[i'] ∈ H ++ ((B.list.take j).flatMap (watI kk r) ++ (watI kk r B.list[j]).take i) := fun i' hi' hlt hd => by
   refine List.mem_append_right _ (List.mem_append_left _ (List.mem_flatMap.2 ⟨B.list[i'], ?_, watI_self fun e => ?_⟩))
   ·exact List.mem_take_iff_getElem.2 ⟨i', by omega, rfl⟩
   ·have := hP _ (List.getElem_mem hi') e
    omega
  by_cases h22 : (B.list[j]).op = 22
  ·have e : watI kk r B.list[j] = [] := by unfold watI; rw [if_pos h22]
   simp [e] at hi
  ·by_cases hc : kk = true ∧ (B.list[j]).dst = r
   ·have e : watI kk r B.list[j] = [B.list[j], shwI r] := by unfold watI; rw [if_neg h22, if_pos hc]
    have hi2 : i = 0 ∨ i = 1 := by rw [e] at hi; simp at hi; omega
    rcases hi2 with rfl | rfl
    ·left
     have hx2 : x = B.list[j] := by rw [← hx]; simp [e]
     exact ⟨j, hj, hx2, by rw [hx2]; exact h22, before⟩
    ·right
     have hx2 : x = shwI r := by rw [← hx]; simp [e]
     refine ⟨hx2, hc.1, .inr ⟨B.list[j], ?_, hc.2⟩⟩
     rw [e]
     simp
   ·left
    have e : watI kk r B.list[j] = [B.list[j]] := by unfold watI; rw [if_neg h22, if_neg hc]
    have hi2 : i = 0 := by rw [e] at hi; simp at hi; omega
    subst hi2
    have hx2 : x = B.list[j] := by rw [← hx]; simp [e]
    exact ⟨j, hj, hx2, by rw [hx2]; exact h22, before⟩

structure FunT (F : FunL) : Prop where
 s : FunR' F
 ok : FunOk F
 reach : ∀ b, b < F.blocks.length → b ∈ ordN F.blocks
 uses : usesF (wrF' F).1 (treeU F) (plN (ordN F.blocks)) F = true
 prt : ∀ b, b < F.blocks.length → Prt (blF F b)
 phi0 : (blF F 0).phis = []
 sto : ∀ b, b < F.blocks.length → ∀ x ∈ (blF F b).list, x.op = 19 → x.dst < 0
def upF (F : FunL) : Nat → Nat := upN (treeK (insN F) (ordN F.blocks))
def WrA (F : FunL) (b v : Nat) : Prop := (v : Int) < F.params ∨
 (∃ x, x ≠ b ∧ Ch (upF F) b x ∧ x < F.blocks.length ∧ ((∃ p ∈ (blF F x).phis, p.dst.toNat = v) ∨ ∃ i ∈ (blF F x).list, 0 ≤ i.dst ∧ i.dst.toNat = v)) ∨ ∃ p ∈ (blF F b).phis, p.dst.toNat = v
def WrX (F : FunL) (b : Nat) (pre : List InsL) (v : Nat) : Prop := WrA F b v ∨ ∃ i ∈ pre, 0 ≤ i.dst ∧ i.dst.toNat = v
theorem FunT.known {F : FunL} (h : FunT F) {e : UsE} (he : e ∈ useAll F) (hr : e.vr = true) : WrX F e.b ((blF F e.b).list.take e.a.toNat) e.vn.toNat := by
 have hu := h.uses
 unfold usesF at hu
 rw [List.all_eq_true] at hu
 have hk := hu e he
 unfold knE knB at hk
 rw [hr, if_neg (by decide)] at hk
 have h0 : 0 ≤ ((wrF' F).1 e.vn.toNat).1 := by
  rcases Int.lt_or_le ((wrF' F).1 e.vn.toNat).1 0 with g | g
  ·rw [if_pos g] at hk; cases hk
  ·exact g
 rw [if_neg (by omega)] at hk
 obtain ⟨w, hw, hwr, hwe⟩ := wrF_mem h0
 rw [hwe] at hk
 have hpar := h.s.par
 by_cases hb : w.b = e.b
 ·rw [if_pos hb] at hk
  have hlt : w.a < e.a := of_decide_eq_true hk
  rcases wrAll_is hw with ⟨_, _, h3⟩ | ⟨j, hj, hjb, h3⟩
  ·left; left; omega
  ·obtain rfl : j = e.b := by omega
   rw [blF_get hj]
   rcases h3 with ⟨_, p, hp, hpr⟩ | ⟨i, hi, hia, hd, hir⟩
   ·left; right; right
    exact ⟨p, by rw [blF_get hj]; exact hp, hpr.trans hwr⟩
   ·right
    exact ⟨_, List.mem_take_iff_getElem.2 ⟨i, by omega, rfl⟩, hd, hir.trans hwr⟩
 ·rw [if_neg hb] at hk
  have hwb : 0 ≤ w.b := by rw [hwe] at h0; exact h0
  have hch := rules_ch (u := treeK (insN F) (ordN F.blocks)) _ _ _ hk (by omega) (by omega)
  rw [Int.toNat_natCast, Int.toNat_natCast] at hch
  left
  rcases wrAll_is hw with ⟨_, _, h3⟩ | ⟨j, hj, hjb, h3⟩
  ·left; omega
  ·right; left
   have hj2 : w.b.toNat = j := by rw [hjb]; exact Int.toNat_natCast j
   rw [hj2] at hch
   refine ⟨j, fun e2 => hb (by rw [hjb, e2]), hch, hj, ?_⟩
   rw [blF_get hj]
   rcases h3 with ⟨_, p, hp, hpr⟩ | ⟨i, hi, hia, hd, hir⟩
   ·exact .inl ⟨p, hp, hpr.trans hwr⟩
   ·exact .inr ⟨_, List.getElem_mem hi, hd, hir.trans hwr⟩
end Go.Proofs.YtdjamkinijhjoaaDoor
namespace Go.Proofs.YtdjamkinijhjoaaDoor
open Go.RowKit

theorem putS_nil {s : StL} (hs : s.frames = []) (d n : Int) : putS s d n = s := by
 unfold putS
 rw [hs]
theorem jumpS_nil {u : UniL} {s : StL} (hs : s.frames = []) (t : Nat) : jumpS u s t = s := by
 unfold jumpS
 rw [hs]
structure Alike (s t : StL) : Prop where
 mem : t.mem = s.mem
 inp : t.inp = s.inp
 state : t.state = s.state
 value : t.value = s.value
 outs : t.outs = s.outs
 steps : t.steps = s.steps
theorem putS_alike (s : StL) (d n : Int) : Alike s (putS s d n) := by
 cases hs : s.frames with
 | nil => rw [putS_nil hs]; exact ⟨rfl, rfl, rfl, rfl, rfl, rfl⟩
 | cons f rest => rw [putS_eq hs]; exact ⟨rfl, rfl, rfl, rfl, rfl, rfl⟩
theorem jumpS_alike (u : UniL) (s : StL) (t : Nat) : Alike s (jumpS u s t) := by
 cases hs : s.frames with
 | nil => rw [jumpS_nil hs]; exact ⟨rfl, rfl, rfl, rfl, rfl, rfl⟩
 | cons f rest => rw [jumpS_eq hs]; exact ⟨rfl, rfl, rfl, rfl, rfl, rfl⟩
theorem end_keeps (u : UniL) (s : StL) (e : EndL) : (endS u s e).1.mem = s.mem ∧ (endS u s e).1.inp = s.inp ∧ (endS u s e).1.outs = s.outs ∧ (endS u s e).1.steps = s.steps ∧ ((endS u s e).1.state = s.state ∨ (endS u s e).1.state = 0) := by
 unfold endS
 split
 ·have h := jumpS_alike u s (e.to.getD 0 0).toNat
  exact ⟨h.mem, h.inp, h.outs, h.steps, .inl h.state⟩
 split
 ·have h := jumpS_alike u s (if valL (topR s) e.onr e.onn = 0 then e.to.getD 1 0 else e.to.getD 0 0).toNat
  exact ⟨h.mem, h.inp, h.outs, h.steps, .inl h.state⟩
 split
 ·exact ⟨rfl, rfl, rfl, rfl, .inl rfl⟩
 ·exact ⟨rfl, rfl, rfl, rfl, .inr rfl⟩
 ·rename_i f g rest hf
  have h := putS_alike { s with frames := g :: rest } f.dst (valL f.regs e.onr e.onn)
  exact ⟨h.mem, h.inp, h.outs, h.steps, .inl h.state⟩
theorem putS_steps (s : StL) (d n : Int) : (putS s d n).steps = s.steps ∧ (putS s d n).inp = s.inp := ⟨(putS_alike s d n).steps, (putS_alike s d n).inp⟩
theorem ins_keeps (u : UniL) (s : StL) (x : InsL) : (insS u s x).1.steps = s.steps ∧ (insS u s x).1.inp.length ≤ s.inp.length := by
 unfold insS
 split
 ·split
  ·exact ⟨rfl, Nat.le_refl _⟩
  split
  ·exact ⟨rfl, Nat.le_refl _⟩
  ·obtain ⟨h1, h2⟩ := putS_steps s x.dst (s.mem.getD (valL (topR s) x.ar x.an).toNat 0)
   exact ⟨h1, by rw [h2]; exact Nat.le_refl _⟩
 split
 ·split
  ·exact ⟨rfl, Nat.le_refl _⟩
  ·exact ⟨rfl, Nat.le_refl _⟩
 split
 ·split
  ·obtain ⟨h1, h2⟩ := putS_steps s x.dst (-1)
   exact ⟨h1, by rw [h2]; exact Nat.le_refl _⟩
  ·rename_i n l hl
   obtain ⟨h1, h2⟩ := putS_steps { s with inp := l } x.dst n
   exact ⟨h1, by rw [h2, hl]; simp⟩
 split
 ·split
  ·exact ⟨rfl, Nat.le_refl _⟩
  ·exact ⟨rfl, Nat.le_refl _⟩
 split
 ·exact ⟨rfl, Nat.le_refl _⟩
 ·obtain ⟨h1, h2⟩ := putS_steps s x.dst (twoL x.op (valL (topR s) x.ar x.an) (valL (topR s) x.br x.bn)).1
  exact ⟨h1, by rw [h2]; exact Nat.le_refl _⟩
theorem step_keeps {u : UniL} {s : StL} (hne : s.frames ≠ []) : (stepS u s).1.steps = s.steps + 1 ∧ (stepS u s).1.inp.length ≤ s.inp.length := by
 unfold stepS
 cases hs : s.frames with
 | nil => exact absurd hs hne
 | cons f rest =>
  simp only
  split
  ·obtain ⟨_, h2, _, h4, _⟩ := end_keeps u { s with steps := s.steps + 1, frames := f :: rest } (topB u f).fin
   exact ⟨h4, by rw [h2]; exact Nat.le_refl _⟩
  ·exact ins_keeps u { s with steps := s.steps + 1, frames := { f with pos := f.pos + 1 } :: rest } _
theorem mainI_get {u : UniL} (h : ChkOk u) : ∃ m, mainI u.funcs = some m ∧ m < u.funcs.length := by
 obtain ⟨m, hm, _⟩ := h.main
 exact ⟨m, hm, mainI_lt hm⟩
end Go.Proofs.YtdjamkinijhjoaaDoor
