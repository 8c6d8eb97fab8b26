/-
  Plain: in each run of a watched unit what is printed lies in the register's interval.
  The contracts of the small functions that simple.One reaches, each walked once.
  The walk of SpanOfSays: it tells true.
  Plain: a unit that is in static single assignment form has all that the watched runs ask for.
  The contracts of slices.Clone: values, numbers.
  The contract of calls.CopyBlock.
-/
import Derived.Test.YtdjamkinijhjoaaDoorJRunS
import Derived.Test.YtdjamkinijhjoaaDoorRows
import Derived.WalkKit
import Derived.WalkSpells
import Derived.WalkLawsBesides
import Derived.Test.YtdjamkinijhjoaaDoorJDatC
import Derived.Deep.LoopGhost
import Derived.BigQuiet
import Derived.Deep.QuietTactic
import Derived.Deep.RegionHeld3
import Derived.Test.YtdjamkinijhjoaaDoorJChkL
import Derived.Test.YtdjamkinijhjoaaDoorJDomA
import Derived.Test.YtdjamkinijhjoaaDoorJRegA
import Derived.Test.YtdjamkinijhjoaaDoorJSpnA
import Derived.Test.YtdjamkinijhjoaaDoorJSpnC
import Derived.Test.YtdjamkinijhjoaaDoorSpnF
import Derived.Test.YtdjamkinijhjoaaDoorJSpnI
import Derived.Test.YtdjamkinijhjoaaDoorSpnJ
import Derived.Test.YtdjamkinijhjoaaDoorJSpnL
import Derived.Test.YtdjamkinijhjoaaDoorJSsaA
namespace Go.Proofs.YtdjamkinijhjoaaDoor
open Go.RowKit

def FrT (u : UniL) (g : FrL) (pre : List InsL) (d : Int) : Prop := ∀ v : Nat, WrX (fnU u g.fn) g.block pre v → (v : Int) ≠ d → InS (spnF (fnU u g.fn) v) (g.regs.getD v 0)
def FrsR (u u' : UniL) : Int → List FrL → Prop
 | _, [] => True
 | d, g :: rest => FrT u g ((topB u' g).list.take g.pos) d ∧ (0 ≤ d → spnF (fnU u g.fn) d.toNat = allS) ∧ FrsR u u' g.dst rest
theorem getD_upd {l : List Int} {i j : Nat} {n : Int} : (l.set i n).getD j 0 = if i = j ∧ j < l.length then n else l.getD j 0 := by
 rw [List.getD_eq_getElem?_getD, List.getD_eq_getElem?_getD, List.getElem?_set]
 by_cases e : i = j
 ·subst e
  by_cases h : i < l.length
  ·simp [h]
  ·simp [h]
 ·simp [e]
theorem FrT.put {u : UniL} {g g' : FrL} {pre pre' : List InsL} {d e n : Int} (h : FrT u g pre e) (he : e = -1 ∨ e = d) (hf : g'.fn = g.fn) (hb : g'.block = g.block) (hr : g'.regs = setL g.regs d n)
  (hsub : ∀ v : Nat, WrX (fnU u g.fn) g.block pre' v → WrX (fnU u g.fn) g.block pre v ∨ (v : Int) = d) (hd : 0 ≤ d → InS (spnF (fnU u g.fn) d.toNat) n ∧ d.toNat < g.regs.length) : FrT u g' pre' (-1) := fun v hv _ => by
 rw [hf, hb] at hv
 rw [hf, hr]
 unfold setL
 by_cases h0 : 0 ≤ d
 ·rw [if_pos h0, getD_upd]
  obtain ⟨h1, h2⟩ := hd h0
  by_cases hc : d.toNat = v ∧ v < g.regs.length
  ·rw [if_pos hc, ← hc.1]; exact h1
  ·rw [if_neg hc]
   have hne : (v : Int) ≠ d := fun e2 => hc ⟨by omega, by omega⟩
   rcases hsub v hv with h3 | h3
   ·exact h v h3 (by rcases he with rfl | rfl <;> omega)
   ·exact absurd h3 hne
 ·rw [if_neg h0]
  rcases hsub v hv with h3 | h3
  ·exact h v h3 (by rcases he with rfl | rfl <;> omega)
  ·omega
theorem FrT.skip {u : UniL} {g g' : FrL} {pre pre' : List InsL} {d : Int} (h : FrT u g pre (-1)) (hf : g'.fn = g.fn) (hb : g'.block = g.block) (hr : g'.regs = g.regs)
  (hsub : ∀ v : Nat, WrX (fnU u g.fn) g.block pre' v → WrX (fnU u g.fn) g.block pre v ∨ (v : Int) = d) : FrT u g' pre' d := fun v hv hne => by
 rw [hf, hb] at hv
 rw [hf, hr]
 rcases hsub v hv with h3 | h3
 ·exact h v h3 (by omega)
 ·exact absurd h3 hne
theorem wr_snoc {F : FunL} {b : Nat} {pre : List InsL} {x : InsL} {v : Nat} (h : WrX F b (pre ++ [x]) v) : WrX F b pre v ∨ (v : Int) = x.dst := by
 rcases h with h | ⟨i, hi, h1, h2⟩
 ·exact .inl (.inl h)
 ·rcases List.mem_append.1 hi with hi | hi
  ·exact .inl (.inr ⟨i, hi, h1, h2⟩)
  ·rw [List.mem_singleton.1 hi] at h1 h2
   exact .inr (by omega)
theorem FrT.val {u : UniL} {g : FrL} {pre : List InsL} (h : FrT u g pre (-1)) {r : Bool} {n : Int} (hk : r = true → 0 ≤ n ∧ WrX (fnU u g.fn) g.block pre n.toNat) : InS (vlS (spnF (fnU u g.fn)) (r, n)) (valL g.regs r n) := by
 unfold vlS valL
 cases r with
 | false => exact .of (Int.le_refl _) (Int.le_refl _)
 | true => exact h _ (hk rfl).2 (by have := (hk rfl).1; simp only; omega)

section
variable {u : UniL} {k : Nat} {r : Int}
structure Wat (u : UniL) (k : Nat) (r : Int) : Prop where
 fun_ : ∀ i, i < u.funcs.length → FunT (fnU u i)
 uok : UOk (watU u k r)
 r0 : 0 ≤ r
theorem Wat.fn (_h : Wat u k r) {f : FrL} (hf : FrOk (watU u k r) f) : f.fn < u.funcs.length ∧ fnU (watU u k r) f.fn = watF (decide (f.fn = k)) r (fnU u f.fn) ∧ f.block < (fnU u f.fn).blocks.length ∧ topB (watU u k r) f = watB (decide (f.fn = k)) r (blF (fnU u f.fn) f.block) ∧ f.regs.length = (fnU u f.fn).regs.toNat := by
 have h1 : f.fn < u.funcs.length := by have := hf.fn; rw [wat_len] at this; exact this
 have h2 := wat_fn (k := k) (r := r) h1
 have h3 : f.block < (fnU u f.fn).blocks.length := by
  have := hf.block
  rw [h2] at this
  unfold watF at this
  simpa using this
 refine ⟨h1, h2, h3, ?_, ?_⟩
 ·unfold topB
  rw [h2, wat_bl h3]
 ·have := hf.regs
  rw [h2] at this
  exact this
theorem Wat.ins (h : Wat u k r) {f : FrL} (hf : FrOk (watU u k r) f) {x : InsL} (hx : (topB (watU u k r) f).list[f.pos]? = some x) (hT : FrT u f ((topB (watU u k r) f).list.take f.pos) (-1)) :
  (∃ j, ∃ hj : j < (blF (fnU u f.fn) f.block).list.length, x = (blF (fnU u f.fn) f.block).list[j] ∧ x.op ≠ 22 ∧ ItS.ins x ∈ itsF (fnU u f.fn) ∧ ∀ v ∈ takes x, InS (vlS (spnF (fnU u f.fn)) v) (valL f.regs v.1 v.2)) ∨
  (x = shwI r ∧ f.fn = k ∧ InS (spnF (fnU u f.fn) r.toNat) (valL f.regs true r)) := by
 obtain ⟨h1, h2, h3, h4, h5⟩ := h.fn hf
 have hF := h.fun_ _ h1
 rw [h4] at hx hT
 rcases wat_at (hF.prt _ h3) hx with ⟨j, hj, hxe, hx22, hbef⟩ | ⟨hxe, hkk, hor⟩
 ·refine .inl ⟨j, hj, hxe, hx22, ?_, fun v hv => hT.val fun hr => ?_⟩
  ·refine List.mem_flatMap.2 ⟨blF (fnU u f.fn) f.block, ?_, List.mem_append_right _ (List.mem_map.2 ⟨x, ?_, rfl⟩)⟩
   ·rw [blF_get h3]; exact List.getElem_mem h3
   ·rw [hxe]; exact List.getElem_mem hj
  ·have he : (⟨v.1, v.2, f.block, (j : Nat)⟩ : UsE) ∈ useAll (fnU u f.fn) := by
    refine mem_useAll h3 (mem_useIns (j := j) (by rw [← blF_get h3]; exact hj) ?_)
    refine List.mem_map.2 ⟨v, ?_, rfl⟩
    have e : (fnU u f.fn).blocks[f.block] = blF (fnU u f.fn) f.block := (blF_get h3).symm
    simp only [e]
    rw [← hxe]
    exact hv
   have hk := hF.known he hr
   have hv0 : 0 ≤ v.2 := by
    have hi := hF.s.ins f.block h3 x (by rw [← blF_get h3, hxe]; exact List.getElem_mem hj)
    unfold takes at hv
    rcases List.mem_append.1 hv with hv | hv
    ·rcases List.mem_append.1 hv with hv | hv
     ·split at hv
      ·rw [List.mem_singleton.1 hv] at hr ⊢
       exact (hi.2.2.2.1 hr).1
      ·cases hv
     ·split at hv
      ·rw [List.mem_singleton.1 hv] at hr ⊢
       exact (hi.2.2.2.2.1 hr).1
      ·cases hv
    ·exact (hi.2.2.2.2.2 v hv hr).1
   refine ⟨hv0, ?_⟩
   rcases hk with hk | ⟨i, hi, hd, hv2⟩
   ·exact .inl hk
   ·obtain ⟨i', hi', rfl⟩ := List.mem_take_iff_getElem.1 hi
    have hi2 : i' < min ((j : Int).toNat) (blF (fnU u f.fn) f.block).list.length := hi'
    rw [Int.toNat_natCast] at hi2
    exact .inr ⟨_, hbef i' (by omega) (by omega) hd, hd, hv2⟩
 ·have hfk : f.fn = k := of_decide_eq_true hkk
  refine .inr ⟨hxe, hfk, ?_⟩
  have hW : WrX (fnU u f.fn) f.block ((watB (decide (f.fn = k)) r (blF (fnU u f.fn) f.block)).list.take f.pos) r.toNat := by
   rcases hor with ⟨q, hq, hqr⟩ | ⟨y, hy, hyr⟩
   ·have hph := (hF.s.phi f.block h3 q (by rw [← blF_get h3]; exact hq)).dst
    exact .inl (.inr (.inr ⟨q, hq, by rw [hqr]⟩))
   ·exact .inr ⟨y, hy, by rw [hyr]; exact h.r0, by rw [hyr]⟩
  exact hT r.toNat hW (by omega)
theorem writeL_get {phis : List PhiL} {next rs : List Int} {v : Nat} (hv : v < rs.length) : ∀ i, i ≤ phis.length →
  ((writeL phis next rs i).getD v 0 = rs.getD v 0 ∧ ∀ j (hj : j < phis.length), j < i → phis[j].dst.toNat ≠ v) ∨ ∃ j, ∃ hj : j < phis.length, phis[j].dst.toNat = v ∧ (writeL phis next rs i).getD v 0 = next.getD j 0
 | 0, _ => .inl ⟨rfl, fun j hj h => by omega⟩
 | i + 1, hi => by
  have e : (phis.map fun p : PhiL => p.dst).getD i 0 = (phis[i]'(by omega)).dst := by
   rw [List.getD_eq_getElem?_getD, List.getElem?_map, List.getElem?_eq_getElem (by omega)]
   rfl
  have hw : writeL phis next rs (i + 1) = (writeL phis next rs i).set (phis[i]'(by omega)).dst.toNat (next.getD i 0) := by
   rw [← e]; rfl
  rw [hw, getD_upd, writeL_len]
  by_cases hc : (phis[i]'(by omega)).dst.toNat = v ∧ v < rs.length
  ·rw [if_pos hc]
   exact .inr ⟨i, by omega, hc.1, rfl⟩
  ·rw [if_neg hc]
   rcases writeL_get (phis := phis) (next := next) hv i (by omega) with ⟨h1, h2⟩ | h1
   ·refine .inl ⟨h1, fun j hj hlt => ?_⟩
    by_cases hji : j = i
    ·subst hji
     exact fun e2 => hc ⟨e2, hv⟩
    ·exact h2 j hj (by omega)
   ·exact .inr h1
theorem Wat.jump (h : Wat u k r) {f : FrL} (hf : FrOk (watU u k r) f) (hpos : f.pos = (topB (watU u k r) f).list.length) (hT : FrT u f ((topB (watU u k r) f).list.take f.pos) (-1)) {t : Int} (ht : t ∈ (topB (watU u k r) f).fin.to) : FrT u (jumpF (watU u k r) f t.toNat) [] (-1) := by
 obtain ⟨h1, h2, h3, h4, h5⟩ := h.fn hf
 have hF := h.fun_ _ h1
 rw [hpos, List.take_length] at hT
 rw [h4] at hT ht
 obtain ⟨t1, t2⟩ : 1 ≤ t ∧ t < ((fnU u f.fn).blocks.length : Int) := hF.s.tos f.block h3 t (by rw [← blF_get h3]; exact ht)
 have hto : t.toNat < (fnU u f.fn).blocks.length := by omega
 have hin : f.block ∈ insN (fnU u f.fn) t.toNat := row_mem h3 (by rw [← blF_get h3]; exact ht)
 have hdom := fun x => hF.s.toFunS.treeE.dom (x := x) hF.s.toFunS.ord (c := t.toNat) (p := f.block) (hF.reach _ hto) (by omega) hin (hF.reach _ h3)
 have hcalm := spnF_calm hF.ok
 have hregs : (jumpF (watU u k r) f t.toNat).regs = writeL (blF (fnU u f.fn) t.toNat).phis (nextL f.regs (fromL (fnU u f.fn) t.toNat f.block) (blF (fnU u f.fn) t.toNat).phis) f.regs (blF (fnU u f.fn) t.toNat).phis.length := by
  unfold jumpF fromL
  rw [h2, wat_bl hto, wat_ways]
  rfl
 intro v hv _
 have hv : WrX (fnU u f.fn) t.toNat [] v := hv
 show InS (spnF (fnU u f.fn) v) ((jumpF (watU u k r) f t.toNat).regs.getD v 0)
 rw [hregs]
 generalize hF2 : fnU u f.fn = F at *
 -- known ahead of the jump, or a phi
 have hold : InS (spnF F v) (f.regs.getD v 0) ∨ ∃ p ∈ (blF F t.toNat).phis, p.dst.toNat = v := by
  have old : ∀ v, WrX F f.block (watB (decide (f.fn = k)) r (blF F f.block)).list v → InS (spnF F v) (f.regs.getD v 0) := fun v hw => by
   have := hT v (by rw [hF2]; exact hw) (by omega)
   rw [hF2] at this
   exact this
  rcases hv with hv | ⟨i, hi, _⟩
  ·rcases hv with hv | ⟨x, hxb, hch, hxl, hx⟩ | hv
   ·exact .inl (old v (.inl (.inl hv)))
   ·have hch2 := hdom x hch hxb
    refine .inl (old v ?_)
    by_cases e : x = f.block
    ·subst e
     rcases hx with hx | ⟨i, hi, hd, hiv⟩
     ·exact .inl (.inr (.inr hx))
     ·exact .inr ⟨i, wat_all (hF.prt _ h3) hi hd, hd, hiv⟩
    ·exact .inl (.inr (.inl ⟨x, e, hch2, hxl, hx⟩))
   ·exact .inr hv
  ·cases hi
 by_cases hvl : v < f.regs.length
 ·rcases writeL_get (phis := (blF F t.toNat).phis) (next := nextL f.regs (fromL F t.toNat f.block) (blF F t.toNat).phis) hvl _ (Nat.le_refl _) with ⟨e1, e2⟩ | ⟨j, hj, hjv, e1⟩
  ·rw [e1]
   rcases hold with ho | ⟨p, hp, hpv⟩
   ·exact ho
   ·obtain ⟨j, hj, rfl⟩ := List.getElem_of_mem hp
    exact absurd hpv (e2 j hj hj)
  ·rw [e1]
   have hph := hF.s.phi t.toNat hto ((blF F t.toNat).phis[j]) (by rw [← blF_get hto]; exact List.getElem_mem hj)
   have hkk : fromL F t.toNat f.block < ((blF F t.toNat).phis[j]).src.length := by
    rw [hph.len]; exact List.idxOf_lt_length_iff.2 hin
   have hins : (insN F t.toNat).getD (fromL F t.toNat f.block) 0 = f.block := by
    have hl : fromL F t.toNat f.block < (insN F t.toNat).length := List.idxOf_lt_length_iff.2 hin
    rw [List.getD_eq_getElem?_getD, List.getElem?_eq_getElem hl]
    exact List.getElem_idxOf hl
   have he := mem_useFrom (f := F) (k := t.toNat) (p := (blF F t.toNat).phis[j]) hkk
   have he2 := mem_useAll (f := F) hto (mem_usePhi (j := j) (by rw [← blF_get hto]; exact hj) (by
    have e : F.blocks[t.toNat] = blF F t.toNat := (blF_get hto).symm
    simp only [e]
    exact he))
   have hval : InS (vlS (spnF F) (((blF F t.toNat).phis[j]).src[fromL F t.toNat f.block])) (valL f.regs (((blF F t.toNat).phis[j]).src[fromL F t.toNat f.block]).1 (((blF F t.toNat).phis[j]).src[fromL F t.toNat f.block]).2) := by
    have hvv := hT.val (r := (((blF F t.toNat).phis[j]).src[fromL F t.toNat f.block]).1) (n := (((blF F t.toNat).phis[j]).src[fromL F t.toNat f.block]).2) (fun hr => by
     have hk := hF.known he2 hr
     refine ⟨(hph.src _ (List.getElem_mem hkk) hr).1, ?_⟩
     rw [hF2]
     simp only [hins] at hk
     rcases hk with hk | ⟨i, hi, hd, hiv⟩
     ·exact .inl hk
     ·exact .inr ⟨i, wat_all (hF.prt _ h3) (List.mem_of_mem_take hi) hd, hd, hiv⟩)
    rw [hF2] at hvv
    exact hvv
   have hnext : (nextL f.regs (fromL F t.toNat f.block) (blF F t.toNat).phis).getD j 0 = valL f.regs (((blF F t.toNat).phis[j]).src[fromL F t.toNat f.block]).1 (((blF F t.toNat).phis[j]).src[fromL F t.toNat f.block]).2 := by
    unfold nextL
    rw [List.getD_eq_getElem?_getD, List.getElem?_map, List.getElem?_eq_getElem hj]
    simp only [Option.map_some, Option.getD_some]
    rw [List.getD_eq_getElem?_getD, List.getElem?_eq_getElem hkk]
    rfl
   rw [hnext, ← hjv]
   have hmade : InS ((ItS.phi ((blF F t.toNat).phis[j])).made (spnF F)) (valL f.regs (((blF F t.toNat).phis[j]).src[fromL F t.toNat f.block]).1 (((blF F t.toNat).phis[j]).src[fromL F t.toNat f.block]).2) :=
    phS_fold _ _ (.inr ⟨_, List.getElem_mem hkk, hval⟩)
   have hmem : ItS.phi ((blF F t.toNat).phis[j]) ∈ itsF F := by
    refine List.mem_flatMap.2 ⟨blF F t.toNat, ?_, List.mem_append_left _ (List.mem_map.2 ⟨_, List.getElem_mem hj, rfl⟩)⟩
    rw [blF_get hto]; exact List.getElem_mem hto
   exact InS.join (hcalm.2 _ hmem hph.dst.1) hmade
 ·have e : ∀ l : List Int, ¬ v < l.length → l.getD v 0 = 0 := fun l hl => by rw [List.getD_eq_getElem?_getD, List.getElem?_eq_none (by omega)]; rfl
  rcases hold with ho | ⟨p, hp, hpv⟩
  ·rw [e _ hvl] at ho
   rw [e _ (by rw [writeL_len]; exact hvl)]
   exact ho
  ·have hph := (hF.s.phi t.toNat hto p (by rw [← blF_get hto]; exact hp)).dst
   omega
theorem take_next {l : List InsL} {p : Nat} {x : InsL} (h : l[p]? = some x) : l.take (p + 1) = l.take p ++ [x] := by
 rw [List.take_add_one, h]; rfl
theorem Wat.step (h : Wat u k r) {s : StL} (hok : StOk (watU u k r) s) (hP : FrsR u (watU u k r) (-1) s.frames) (hO : ∀ x ∈ s.outs, InS (spnF (fnU u k) r.toNat) x) :
  (∀ x ∈ (stepS (watU u k r) s).1.outs, InS (spnF (fnU u k) r.toNat) x) ∧ ((stepS (watU u k r) s).2 = true → FrsR u (watU u k r) (-1) (stepS (watU u k r) s).1.frames) := by
 unfold stepS
 cases hs : s.frames with
 | nil => exact ⟨hO, fun e => by cases e⟩
 | cons f rest =>
  rw [hs] at hP
  obtain ⟨hT, _, hR⟩ := hP
  have hf := hok.frs f (by rw [hs]; exact List.mem_cons_self)
  obtain ⟨h1, h2, h3, h4, h5⟩ := h.fn hf
  have hF := h.fun_ _ h1
  have hcalm := spnF_calm hF.ok
  simp only
  by_cases hp : f.pos = (topB (watU u k r) f).list.length
  ·rw [if_pos hp, ← hs]
   have hend := end_keeps (watU u k r) { s with steps := s.steps + 1 } (topB (watU u k r) f).fin
   refine ⟨fun x hx => hO x (by rw [hend.2.2.1] at hx; exact hx), ?_⟩
   obtain ⟨hfin, hfi⟩ := h.uok.fin hf
   have hjump : ∀ t ∈ (topB (watU u k r) f).fin.to, FrsR u (watU u k r) (-1) (jumpS (watU u k r) { s with steps := s.steps + 1 } t.toNat).frames := fun t ht => by
    have e : (jumpS (watU u k r) { s with steps := s.steps + 1 } t.toNat).frames = jumpF (watU u k r) f t.toNat :: rest := by unfold jumpS; simp only [hs]
    rw [e]
    refine ⟨?_, fun hn => by omega, hR⟩
    have := h.jump hf hp hT ht
    exact this
   have hget : ∀ i, i < (topB (watU u k r) f).fin.to.length → (topB (watU u k r) f).fin.to.getD i 0 ∈ (topB (watU u k r) f).fin.to := fun i hi => by
    rw [List.getD_eq_getElem?_getD, List.getElem?_eq_getElem hi]
    exact List.getElem_mem hi
   have hlen := hfin.len
   unfold endS
   split
   ·next h2k => exact fun _ => hjump _ (hget 0 (by omega))
   ·split
    ·next h3k =>
     intro _
     split
     ·exact hjump _ (hget 1 (by omega))
     ·exact hjump _ (hget 0 (by omega))
    ·simp only [hs]
     cases rest with
     | nil => exact fun e => by cases e
     | cons g rest =>
      intro _
      obtain ⟨hTg, hall, hRg⟩ := hR
      have hg := hok.frs g (by rw [hs]; exact List.mem_cons_of_mem _ List.mem_cons_self)
      have hd := hok.dst
      rw [hs] at hd
      obtain ⟨⟨d1, d2⟩, _⟩ := hd
      refine ⟨hTg.put (.inr rfl) rfl rfl rfl (fun v hv => .inl hv) (fun h0 => ⟨?_, by omega⟩), fun hn => by omega, hRg⟩
      rw [hall h0]
      exact .all (valL_i64 hf.i64 hfi)
  ·rw [if_neg hp]
   have hlt : f.pos < (topB (watU u k r) f).list.length := by have := hf.pos; omega
   have hx : (topB (watU u k r) f).list[f.pos]? = some ((topB (watU u k r) f).list.getD f.pos noI) := by
    rw [List.getD_eq_getElem?_getD, List.getElem?_eq_getElem hlt]; rfl
   generalize (topB (watU u k r) f).list.getD f.pos noI = x at *
   have hxm := List.mem_of_getElem? hx
   obtain ⟨hio, hia, hib, hig⟩ := h.uok.ins hf hxm
   have hregs : (fnU (watU u k r) f.fn).regs = (fnU u f.fn).regs := by rw [h2]; rfl
   have hpar := hF.s.par
   have hsn := take_next hx
   have hlater : ∀ v : Nat, WrX (fnU u f.fn) f.block ((topB (watU u k r) f).list.take (f.pos + 1)) v → WrX (fnU u f.fn) f.block ((topB (watU u k r) f).list.take f.pos) v ∨ (v : Int) = x.dst := fun v hv => by
    rw [hsn] at hv
    exact wr_snoc hv
   have hdl : 0 ≤ x.dst → x.dst.toNat < f.regs.length := fun h0 => by
    have := hio.dst
    rw [hregs] at this
    omega
   -- a number is written, and all goes on
   have hput : ∀ n : Int, (0 ≤ x.dst → InS (spnF (fnU u f.fn) x.dst.toNat) n) → FrsR u (watU u k r) (-1) ({ f with pos := f.pos + 1, regs := setL f.regs x.dst n } :: rest) := fun n hn =>
    ⟨hT.put (.inl rfl) rfl rfl rfl hlater (fun h0 => ⟨hn h0, hdl h0⟩), fun hn => by omega, hR⟩
   have hstay : x.dst < 0 → FrsR u (watU u k r) (-1) ({ f with pos := f.pos + 1 } :: rest) := fun hneg =>
    ⟨hT.skip rfl rfl rfl (fun v hv => (hlater v hv).imp id (fun e => by omega)), fun hn => by omega, hR⟩
   obtain ⟨s', hs'⟩ : ∃ s', s' = ({ s with steps := s.steps + 1, frames := { f with pos := f.pos + 1 } :: rest } : StL) := ⟨_, rfl⟩
   rw [← hs']
   have hOs : ∀ y ∈ s'.outs, InS (spnF (fnU u k) r.toNat) y := by rw [hs']; exact hO
   have hfr : s'.frames = { f with pos := f.pos + 1 } :: rest := by rw [hs']
   have htop : topR s' = f.regs := by unfold topR; rw [hfr]
   have hpf : ∀ t : StL, t.frames = { f with pos := f.pos + 1 } :: rest → ∀ n, (putS t x.dst n).frames = { f with pos := f.pos + 1, regs := setL f.regs x.dst n } :: rest := fun t ht n => by unfold putS; rw [ht]
   have hpo : ∀ (t : StL) d n, (putS t d n).outs = t.outs := fun t d n => (putS_alike t d n).outs
   have hmem : ∀ y ∈ s'.mem, I64 y := by rw [hs']; exact hok.memI
   have hinp : ∀ y ∈ s'.inp, I64 y := by rw [hs']; exact hok.inpI
   rcases h.ins hf hx hT with ⟨j, hj, hxe, hx22, hits, htk⟩ | ⟨hxe, hfk, hin⟩
   ·have hout : 17 < x.op → ∀ n : Int, I64 n → 0 ≤ x.dst → InS (spnF (fnU u f.fn) x.dst.toNat) n := fun h17 n hn hd => by
     rw [spnF_outside hF.ok hits h17 hd]
     exact .all hn
    unfold insS
    rw [htop]
    split
    ·next h18 =>
     split
     ·exact ⟨hOs, fun e => by cases e⟩
     split
     ·next h19 =>
      refine ⟨hOs, fun _ => ?_⟩
      have hneg : x.dst < 0 := hF.sto _ h3 x (by rw [hxe]; exact List.getElem_mem hj) h19
      have hst := hstay hneg
      rw [← hfr] at hst
      exact hst
     ·refine ⟨fun y hy => hOs y (by rw [hpo] at hy; exact hy), fun _ => ?_⟩
      rw [hpf s' hfr]
      exact hput _ (hout (by omega) _ (getD_i64 hmem _))
    split
    ·next h20 =>
     split
     ·exact ⟨hOs, fun e => by cases e⟩
     ·refine ⟨hOs, fun _ => ?_⟩
      have hfrs : (enterS (watU u k r) s' x.fn.toNat x.dst (x.args.map fun v => valL f.regs v.1 v.2)).frames = ⟨x.fn.toNat, 0, 0, (x.args.map fun v => valL f.regs v.1 v.2) ++ List.replicate ((fnU (watU u k r) x.fn.toNat).regs.toNat - (x.args.map fun v => valL f.regs v.1 v.2).length) 0, x.dst⟩ :: s'.frames := rfl
      rw [hfrs, hfr]
      have hc := (hio.call h20).1
      rw [wat_len] at hc
      have hG := h.fun_ x.fn.toNat (by omega)
      refine ⟨fun v hv _ => ?_, fun hn => by omega, hT.skip rfl rfl rfl hlater, fun hd => spnF_outside hF.ok hits (by omega) hd, hR⟩
      have hv : WrX (fnU u x.fn.toNat) 0 [] v := hv
      rcases hv with hv | ⟨i, hi, _⟩
      ·rcases hv with hv | ⟨y, hyb, hch, _⟩ | ⟨q, hq, _⟩
       ·show InS (spnF (fnU u x.fn.toNat) v) _
        rw [spnF_params hG.ok hv]
        refine .all (getD_i64 (fun y hy => ?_) v)
        rcases List.mem_append.1 hy with hy | hy
        ·obtain ⟨a, ha, rfl⟩ := List.mem_map.1 hy
         exact valL_i64 hf.i64 (hig a ha)
        ·rw [(List.mem_replicate.1 hy).2]; exact I64.zero
       ·exact absurd (ch_root hch) hyb
       ·rw [hG.phi0] at hq; cases hq
      ·cases hi
    split
    ·next h21 =>
     split
     ·refine ⟨fun y hy => hOs y (by rw [hpo] at hy; exact hy), fun _ => ?_⟩
      rw [hpf s' hfr]
      exact hput _ (hout (by omega) _ (by unfold I64; omega))
     ·next n l hl =>
      refine ⟨fun y hy => hOs y (by rw [hpo] at hy; exact hy), fun _ => ?_⟩
      rw [hpf _ (by exact hfr)]
      exact hput _ (hout (by omega) _ (hinp n (by rw [hl]; exact List.mem_cons_self)))
    try rw [if_neg hx22]
    split
    ·exact ⟨hOs, fun e => by cases e⟩
    ·next h18 h20 h21 htwo =>
     refine ⟨fun y hy => hOs y (by rw [hpo] at hy; exact hy), fun _ => ?_⟩
     rw [hpf s' hfr]
     have hop := hio.op
     have hop17 : 1 ≤ x.op ∧ x.op ≤ 17 := by omega
     refine hput _ fun hd => ?_
     have hA : InS (vlS (spnF (fnU u f.fn)) (x.ar, x.an)) (valL f.regs x.ar x.an) := htk (x.ar, x.an) (by
      unfold takes
      rw [if_pos (by unfold shA; exact decide_eq_true (by omega))]
      simp)
     have hB : 2 ≤ x.op ∧ x.op ≤ 15 → InS (vlS (spnF (fnU u f.fn)) (x.br, x.bn)) (valL f.regs x.br x.bn) := fun h215 => htk (x.br, x.bn) (by
      unfold takes
      rw [if_pos (show shB x.op = true by unfold shB; exact decide_eq_true (.inl h215))]
      simp)
     have htw : twoL x.op (valL f.regs x.ar x.an) (valL f.regs x.br x.bn) = ((twoL x.op (valL f.regs x.ar x.an) (valL f.regs x.br x.bn)).1, true) := by
      refine Prod.ext rfl ?_
      simpa using htwo
     have hmk := mak_in hop17 (hcalm.1.vl (v := (x.ar, x.an)) hia) (hcalm.1.vl (v := (x.br, x.bn)) hib) hA hB (valL_i64 hf.i64 hia) htw
     exact InS.join (hcalm.2 _ hits hd) hmk
   ·have hop : x.op = 22 := by rw [hxe]; rfl
    have hdx : x.dst = -1 := by rw [hxe]; rfl
    have hax : x.ar = true ∧ x.an = r := by rw [hxe]; exact ⟨rfl, rfl⟩
    unfold insS
    rw [htop, if_neg (by omega), if_neg (by omega), if_neg (by omega), if_pos hop]
    split
    ·exact ⟨hOs, fun e => by cases e⟩
    ·refine ⟨fun y hy => ?_, fun _ => ?_⟩
     ·have hy : y ∈ s'.outs ++ [valL f.regs x.ar x.an] := hy
      rcases List.mem_append.1 hy with hy | hy
      ·exact hOs y hy
      ·rw [List.mem_singleton.1 hy, hax.1, hax.2]
       rw [hfk] at hin
       exact hin
     ·have hst := hstay (by omega)
      rw [← hfr] at hst
      exact hst
theorem Wat.go (h : Wat u k r) : ∀ (n : Nat) (s : StL), StOk (watU u k r) s → FrsR u (watU u k r) (-1) s.frames → (∀ x ∈ s.outs, InS (spnF (fnU u k) r.toNat) x) → ∀ x ∈ (goS (watU u k r) n s).outs, InS (spnF (fnU u k) r.toNat) x
 | 0, s, _, _, hO => hO
 | n + 1, s, hok, hP, hO => by
  obtain ⟨h1, h2⟩ := h.step hok hP hO
  unfold goS
  split
  ·next ht => exact h.go n _ (step_ok h.uok hok) (h2 ht) h1
  ·exact h1
theorem Wat.run (h : Wat u k r) {inp : List Int} (hi : ∀ x ∈ inp, I64 x) (fuel : Nat) : ∀ x ∈ (runU (watU u k r) inp fuel).outs, InS (spnF (fnU u k) r.toNat) x := by
 obtain ⟨m, hm, hml⟩ := mainI_get h.uok.chk
 unfold runU
 rw [hm]
 have hml2 := hml
 rw [wat_len] at hml2
 have hG := h.fun_ m hml2
 refine h.go fuel _ (start_ok h.uok hi hml) ⟨fun v hv _ => ?_, fun hn => by omega, trivial⟩ (fun x hx => by cases hx)
 have hv : WrX (fnU u m) 0 [] v := hv
 rcases hv with hv | ⟨i, hi, _⟩
 ·rcases hv with hv | ⟨y, hyb, hch, _⟩ | ⟨q, hq, _⟩
  ·show InS (spnF (fnU u m) v) _
   rw [spnF_params hG.ok hv]
   refine .all (getD_i64 (fun y hy => ?_) v)
   rw [(List.mem_replicate.1 hy).2]; exact I64.zero
  ·exact absurd (ch_root hch) hyb
  ·rw [hG.phi0] at hq; cases hq
 ·cases hi
theorem Wat.few (h : Wat u k r) {inp : List Int} (hi : ∀ x ∈ inp, I64 x) (fuel : Nat) : (runU (watU u k r) inp fuel).outs.length ≤ 200 := by
 obtain ⟨m, hm, hml⟩ := mainI_get h.uok.chk
 unfold runU
 rw [hm]
 exact (go_ok h.uok fuel (start_ok h.uok hi hml)).outs
end
end Go.Proofs.YtdjamkinijhjoaaDoor
namespace Go.Proofs.YtdjamkinijhjoaaDoor
open Go.RowKit

set_option maxHeartbeats 400000 in
theorem yes_any (b : Bool) (w : World) :
  Calls Tryd.prog 156 #[.bool b] w fun e w' => e = .returned (.int .i64 (if b then 1 else 0)) ∧ w = w' := by
 cases b
 all_goals
  go_enter Tryd.func156, Tryd.ntmps156
  go_wp2
  go_ret
  exact ⟨rfl, rfl⟩

structure Inst where
 op : Int
 dst : Int
 ar : Bool
 an : Int
 br : Bool
 bn : Int
 fn : Int
 ap : Option Addr
 al : Nat
 ac : Nat
def Inst.cells (i : Inst) : Array Value := #[.int .i64 i.op, .int .i64 i.dst, .bool i.ar, .int .i64 i.an, .bool i.br, .int .i64 i.bn, .int .i64 i.fn, .slice i.ap i.al i.ac]
def one1 (op dst : Int) (r : Bool) (n : Int) : Inst := ⟨op, dst, r, n, false, 0, 0, none, 0, 0⟩

end Go.Proofs.YtdjamkinijhjoaaDoor
namespace Go.Proofs.YtdjamkinijhjoaaDoor
open Go.RowKit Go.Shelf

theorem ssaU_zero {u : UniL} (h : (ssaU u).1 = 0) : ssaU u = (0, 0) := by
 unfold ssaU at h ⊢
 by_cases hc : (chk u).1 = 0
 ·rw [if_pos hc] at h ⊢
  cases hf : firstAt u.funcs.length (ssaI u) with
  | none => rfl
  | some r => rw [hf] at h; exact absurd h (firstAt_some hf)
 ·rw [if_neg hc] at h
  exact absurd h hc
theorem okU_false {u : UniL} (h : okU u = false) : (ssaU u).1 ≠ 0 := fun e => by
 unfold okU at h
 rw [ssaU_zero e] at h
 cases h
theorem okU_true {u : UniL} (h : okU u = true) : ssaU u = (0, 0) := by
 unfold okU at h
 rw [Bool.and_eq_true] at h
 exact ssaU_zero (by simpa using h.1)
def PairR (cs : List Value) (x : Int × Int) : Prop := cs = [.int .i64 x.1, .int .i64 x.2]
theorem pairGet {w w' : World} {p : Option Addr} {xs : List (Int × Int)} (h : SliceAt w 2 PairR p xs) (hb : Below w.heap.size w w') {i : Nat} (hi : i < xs.length) :
  ∃ b o, p = some ⟨b, o, none⟩ ∧ w'.cell? ⟨b, o + i * 2, none⟩ = some (.int .i64 xs[i].1) ∧ w'.cell? ⟨b, o + i * 2 + 1, none⟩ = some (.int .i64 xs[i].2) := by
 rcases h with rfl | ⟨b, o, hp, h⟩
 ·simp at hi
 ·obtain ⟨cs, _, hc, rfl⟩ := h i hi
  have h0 : w.cell? ⟨b, o + i * 2, none⟩ = some (.int .i64 xs[i].1) := hc 0 (by omega)
  have h1 : w.cell? ⟨b, o + i * 2 + 1, none⟩ = some (.int .i64 xs[i].2) := hc 1 (by omega)
  have hl := lt_of_cell h0
  exact ⟨b, o, hp, (hb.cell (p := ⟨b, _, none⟩) hl).trans h0, (hb.cell (p := ⟨b, _, none⟩) hl).trans h1⟩
end Go.Proofs.YtdjamkinijhjoaaDoor
namespace Go.Proofs.YtdjamkinijhjoaaDoor
open Go.RowKit

theorem nodup_all {n : Nat} {l : List Nat} (hd : l.Nodup) (hl : ∀ x ∈ l, x < n) (hn : n ≤ l.length) {b : Nat} (hb : b < n) : b ∈ l := by
 by_cases h : b ∈ l
 ·exact h
 ·have h1 := nodup_len n (b :: l) (List.nodup_cons.2 ⟨h, hd⟩) (fun x hx => by
   rcases List.mem_cons.1 hx with e | hx
   ·omega
   ·exact hl x hx)
  rw [List.length_cons] at h1
  omega
theorem okU_ssa {u : UniL} (h : okU u = true) {k : Nat} (hk : k < u.funcs.length) : ssaE u.funcs[k] = 0 := by
 have h1 := okU_true h
 unfold ssaU at h1
 split at h1
 ·cases hf : firstAt u.funcs.length (ssaI u) with
  | some r =>
   rw [hf] at h1
   have h1 : r = (0, 0) := h1
   exact absurd (by rw [h1]) (firstAt_some hf)
  | none => rw [← ssaI_at hk]; exact firstAt_all hf k hk
 ·next hc => rw [h1] at hc; exact absurd rfl hc
theorem ssaE_zero {f : FunL} (h : ssaE f = 0) : f.blocks.length ≤ (postL f.blocks).length ∧ usesF (wrF' f).1 (treeU f) (plN (ordN f.blocks)) f = true := by
 unfold ssaE at h
 split at h
 ·cases h
 split at h
 ·cases h
 split at h
 ·cases h
 ·next h1 h2 h3 => exact ⟨by omega, by simpa using h3⟩
theorem insL_no {u : UniL} {f : FunL} {x : InsL} (h : insL u f x = 0) (hd : shD x.op = false) : x.dst = -1 := by
 unfold insL insE at h
 split at h
 ·cases h
 split at h
 ·cases h
 ·next h1 h2 =>
  by_cases e : x.dst = -1
  ·exact e
  ·exact absurd (.inl ⟨hd, e⟩) h2
theorem okU_funT {u : UniL} (h : okU u = true) {k : Nat} (hk : k < u.funcs.length) (hF : FunOk u.funcs[k]) : FunT (fnU u k) := by
 rw [fnU_get hk]
 have hc := okU_chk h
 have hS := hc.funR hk
 obtain ⟨h1, h2⟩ := ssaE_zero (okU_ssa h hk)
 have hb := fun b hb => bodyE_blk (hc.bodyZ hk) (b := b) hb
 have hn := hS.toFunS.ord
 have hno : ∀ b, b < (u.funcs[k]).blocks.length → ∀ x ∈ (blF u.funcs[k] b).list, shD x.op = false → x.dst < 0 := fun b hbl x hx hd => by
  rw [blF_get hbl] at hx
  have := insL_no ((hb b hbl).2 x hx) hd
  omega
 refine { s := hS, ok := hF, reach := fun b hbl => ?_, uses := h2, prt := fun b hbl x hx h22 => hno b hbl x hx (by rw [h22]; rfl), phi0 := ?_, sto := fun b hbl x hx h19 => hno b hbl x hx (by rw [h19]; rfl) }
 ·refine nodup_all hn.once hn.inb ?_ hbl
  have e1 : (ordN (u.funcs[k]).blocks).length = (orderB (u.funcs[k]).blocks).length := by unfold ordN; simp
  have e2 : (orderB (u.funcs[k]).blocks).length = (postL (u.funcs[k]).blocks).length := by unfold orderB; simp
  omega
 ·rw [blF_get hS.n1]
  cases hp : ((u.funcs[k]).blocks[0]'hS.n1).phis with
  | nil => rfl
  | cons p l =>
   have h5 := (hb 0 hS.n1).1 p (by rw [hp]; exact List.mem_cons_self)
   unfold phiL phiE at h5
   rw [if_pos rfl] at h5
   cases h5
end Go.Proofs.YtdjamkinijhjoaaDoor
namespace Go.Proofs.YtdjamkinijhjoaaDoor
open Go.RowKit

def LoB (B : Nat) (S : Blks) : Prop := ∀ k, S k → B ≤ k
def valCs (xs : List (Bool × Int)) (i : Nat) : List Value := [.bool (xs.getD i (false, 0)).1, .int .i64 (xs.getD i (false, 0)).2]
def intCs (xs : List Int) (i : Nat) : List Value := [.int .i64 (xs.getD i 0)]
theorem infoValC : (Tryd.prog.info? 45).map (fun i => (i.zero, i.size, i.bytes)) = some (some (.agg #[.bool false, .int .i64 0]), 2, 16) := by kernel_rfl
theorem infoIntC : (Tryd.prog.info? 3).map (fun i => (i.zero, i.size, i.bytes)) = some (some (.int .i64 0), 1, 8) := by kernel_rfl
theorem val_one (xs : List (Bool × Int)) (i : Nat) : ∀ u ∈ valCs xs i, u.oneCell' = true := by
 intro u hu
 simp only [valCs, List.mem_cons, List.not_mem_nil, or_false] at hu
 rcases hu with rfl | rfl <;> rfl
theorem int_one (xs : List Int) (i : Nat) : ∀ u ∈ intCs xs i, u.oneCell' = true := by
 intro u hu
 simp only [intCs, List.mem_cons, List.not_mem_nil, or_false] at hu
 rw [hu]
 rfl
theorem flatC_all {cs : Nat → List Value} {n : Nat} {P : Value → Prop} (h : ∀ i, i < n → ∀ u ∈ cs i, P u) : ∀ u ∈ (List.range n).flatMap cs, P u := by
 intro u hu
 obtain ⟨i, hi, h2⟩ := List.mem_flatMap.1 hu
 exact h i (List.mem_range.1 hi) u h2
theorem addr_addC (b o j : Nat) : (⟨b, o, none⟩ : Addr).add j = ⟨b, o + j, none⟩ := by
 by_cases hz : j = 0 <;> simp [Addr.add, hz]
theorem flat_cells {α : Type} {w : World} {size : Nat} {R : List Value → α → Prop} {a : Addr} {xs : List α} {cs : Nat → List Value} (h : SliceAt w size R (some a) xs) (hsz : 0 < size) (hl : ∀ i, i < xs.length → (cs i).length = size) (hc : ∀ i (hi : i < xs.length) c, R c xs[i] → c = cs i) :
  ∀ j u, ((List.range xs.length).flatMap cs)[j]? = some u → w.cell? (a.add j) = some u := by
 intro j u hu
 rcases h with rfl | ⟨b, o, ha, h⟩
 ·simp at hu
 ·cases ha
  have hj : j < xs.length * size := by
   rw [← flat_len _ hl]
   exact (List.getElem?_eq_some_iff.1 hu).1
  have hi : j / size < xs.length := Nat.div_lt_of_lt_mul (by rw [Nat.mul_comm]; exact hj)
  have hm := Nat.mod_lt j hsz
  have e : j = j / size * size + j % size := by rw [Nat.mul_comm]; exact (Nat.div_add_mod j size).symm
  obtain ⟨c, _, hcell, hr⟩ := h _ hi
  have h1 := hcell _ hm
  rw [hc _ hi c hr] at h1
  rw [e, flat_get _ hl _ _ hi hm] at hu
  have ea : (⟨b, o, none⟩ : Addr).add j = ⟨b, o + j / size * size + j % size, none⟩ := by
   have e3 : o + j / size * size + j % size = o + j := by omega
   rw [e3]
   exact addr_addC b o j
  rw [ea, h1, hu]

end Go.Proofs.YtdjamkinijhjoaaDoor
namespace Go.Proofs.YtdjamkinijhjoaaDoor
open Go.RowKit

theorem infoPhiC : (Tryd.prog.info? 78).map (fun i => (i.zero, i.size, i.bytes)) = some (some (.agg #[.int .i64 0, .slice none 0 0]), 2, 32) := by kernel_rfl
theorem infoInsC : (Tryd.prog.info? 53).map (fun i => (i.zero, i.size, i.bytes)) = some (some (.agg #[.int .i64 0, .int .i64 0, .bool false, .int .i64 0, .bool false, .int .i64 0, .int .i64 0, .slice none 0 0]), 8, 80) := by kernel_rfl
theorem SliceAt.get {α : Type} {w : World} {size : Nat} {R : List Value → α → Prop} {p : Option Addr} {xs : List α} (h : SliceAt w size R p xs) {i : Nat} (hi : i < xs.length) : ∃ b o cs, p = some ⟨b, o, none⟩ ∧ cs.length = size ∧ (∀ j, j < size → w.cell? ⟨b, o + i * size + j, none⟩ = cs[j]?) ∧ R cs xs[i] := by
 rcases h with rfl | ⟨b, o, hp, h⟩
 ·simp at hi
 ·obtain ⟨cs, hl, hc, hr⟩ := h i hi
  exact ⟨b, o, cs, hp, hl, hc, hr⟩
theorem SlO.set_alloc {α : Type} {e : TypeId} {size : Nat} {R : ElemO α} (hR : LocO R) {w : World} {v : Value} {xs : List α} {S : Blks} (h : SlO e size R w v xs S) {n j : Nat} (hS : ¬ S n) (u : Value) (o : Obj) : SlO e size R ((w.setCell ⟨n, j, none⟩ u).alloc o) v xs S :=
 h.loc hR (fun k hk => (Below.heap_alloc _ o k (by rw [Go.Deep.nblk_setCell]; exact h.inb k hk)).trans (Go.Deep.blk_setCell_other w ⟨n, j, none⟩ u k (fun e => hS (by rw [← show k = n from e]; exact hk)))) (by simp [World.setCell])
theorem SlQ.set_alloc {α : Type} {e : TypeId} {size bytes : Nat} {R : ElemO α} (hR : LocO R) {w : World} {v : Value} {xs : List α} {S : Blks} (h : SlQ e size bytes R w v xs S) {n j : Nat} (hS : ¬ S n) (u : Value) (o : Obj) : SlQ e size bytes R ((w.setCell ⟨n, j, none⟩ u).alloc o) v xs S := ⟨h.sl.set_alloc hR hS u o, h.bd⟩
theorem InB.set_alloc {w : World} {S : Blks} (h : InB w S) (a : Addr) (u : Value) (o : Obj) : InB ((w.setCell a u).alloc o) S := h.mono (by simp [World.setCell])

end Go.Proofs.YtdjamkinijhjoaaDoor
