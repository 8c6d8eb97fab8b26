/-
  The contract of code.Check.
-/
import Derived.Maps.AppendAt
import Derived.WalkKit
import Derived.WalkSpells
import Derived.WalkLawsBesides
import Derived.Test.YtdjamkinijhjoaaDoorJChkQ
namespace Go.Proofs.YtdjamkinijhjoaaDoor
open Go.RowKit

theorem underStrs : Tryd.prog.underlying 88 = some (.slice 9) := by kernel_rfl
theorem infoStr : (Tryd.prog.info? 9).map (fun i => (i.zero, i.size, i.bytes)) = some (some (.string ⟨#[]⟩), 1, 16) := by kernel_rfl

theorem mainAt_eq (u : UniL) : mainAt u = mainI u.funcs := rfl
theorem chk_big {u : UniL} (h : 10 < u.globals.length ∨ 10 < u.funcs.length) : chk u = (2, 0) := by
 unfold chk chkO
 rw [if_pos h]; rfl
theorem chk_glo {u : UniL} {k : Nat} {e : Int} (h1 : u.globals.length ≤ 10) (h2 : u.funcs.length ≤ 10) (hk : k < u.globals.length) (h0 : ∀ j, j < k → gloI u j = 0) (h : gloI u k = e) (he : e ≠ 0) : chk u = (e, (k : Int)) := by
 unfold chk chkO
 rw [if_neg (by omega), firstAt_hit hk h0 (by rw [h]; exact he), h]; rfl
theorem chk_head {u : UniL} {k : Nat} {e : Int} (h1 : u.globals.length ≤ 10) (h2 : u.funcs.length ≤ 10) (hg : ∀ j, j < u.globals.length → gloI u j = 0) (hk : k < u.funcs.length) (h0 : ∀ j, j < k → headI u j = 0) (h : headI u k = e) (he : e ≠ 0) : chk u = (e, (k : Int)) := by
 unfold chk chkO
 rw [if_neg (by omega), firstAt_none hg]
 simp only
 rw [firstAt_hit hk h0 (by rw [h]; exact he), h]; rfl
theorem chk_body {u : UniL} {k : Nat} {e : Int} (h1 : u.globals.length ≤ 10) (h2 : u.funcs.length ≤ 10) (hg : ∀ j, j < u.globals.length → gloI u j = 0) (hh : ∀ j, j < u.funcs.length → headI u j = 0) (hk : k < u.funcs.length) (h0 : ∀ j, j < k → bodyI u j = 0) (h : bodyI u k = e) (he : e ≠ 0) : chk u = (e, (k : Int)) := by
 unfold chk chkO
 rw [if_neg (by omega), firstAt_none hg]
 simp only
 rw [firstAt_none hh]
 simp only
 rw [firstAt_hit hk h0 (by rw [h]; exact he), h]; rfl
theorem chk_main {u : UniL} (h1 : u.globals.length ≤ 10) (h2 : u.funcs.length ≤ 10) (hg : ∀ j, j < u.globals.length → gloI u j = 0) (hh : ∀ j, j < u.funcs.length → headI u j = 0) (hb : ∀ j, j < u.funcs.length → bodyI u j = 0) :
  chk u = match mainI u.funcs with | none => (6, 0) | some m => if 0 < parU u m then (5, (m : Int)) else (0, 0) := by
 unfold chk chkO
 rw [if_neg (by omega), firstAt_none hg]
 simp only
 rw [firstAt_none hh]
 simp only
 rw [firstAt_none hb, mainAt_eq]
 simp only
 cases mainI u.funcs with
 | none => rfl
 | some m =>
  simp only
  split <;> rfl
theorem gloI_eq {u : UniL} {k : Nat} (hk : k < u.globals.length) : gloI u k = gloE (namesG u k) (wordsTo u k) u.globals[k] := by
 unfold gloI
 rw [List.getElem?_eq_getElem hk]
theorem headI_eq {u : UniL} {k : Nat} (hk : k < u.funcs.length) : headI u k = headE (namesF u k) u.funcs[k] := by
 unfold headI
 rw [List.getElem?_eq_getElem hk]
theorem bodyI_eq {u : UniL} {k : Nat} (hk : k < u.funcs.length) : bodyI u k = bodyE u u.funcs[k] := by
 unfold bodyI
 rw [List.getElem?_eq_getElem hk]
theorem wordsTo_succ {u : UniL} {k : Nat} (hk : k < u.globals.length) : wordsTo u (k + 1) = wordsTo u k + u.globals[k].size := by
 unfold wordsTo
 rw [List.take_succ_eq_append_getElem hk, List.map_append, List.sum_append]
 simp
theorem namesG_succ {u : UniL} {k : Nat} (hk : k < u.globals.length) : namesG u (k + 1) = namesG u k ++ [u.globals[k].name] := by
 unfold namesG
 rw [List.take_succ_eq_append_getElem hk, List.map_append]
 rfl
theorem namesF_succ {u : UniL} {k : Nat} (hk : k < u.funcs.length) : namesF u (k + 1) = namesF u k ++ [u.funcs[k].name] := by
 unfold namesF
 rw [List.take_succ_eq_append_getElem hk, List.map_append, List.append_assoc]
 rfl
theorem headE_zero {names : List ByteArray} {f : FunL} (h : headE names f = 0) : (0 ≤ f.params ∧ f.params ≤ 6) ∧ (f.params ≤ f.regs ∧ f.regs ≤ 100) ∧ (1 ≤ f.blocks.length ∧ f.blocks.length ≤ 40) ∧ manyL f ≤ 300 := by
 unfold headE at h
 split at h
 ·cases h
 split at h
 ·cases h
 split at h
 ·cases h
 split at h
 ·cases h
 omega

theorem strs_own {w : World} {base : Nat} {t : TypeId} {v : Value} {S : List ByteArray} (h : w.ownsRow base t 1 v S.length (S.map .string)) : ∃ p c, v = .slice p S.length c ∧ StrsAt w p S := by
 rcases h.2 with ⟨h1, h2⟩ | ⟨g, cap, cur, h1, _⟩
 ·refine ⟨none, 0, ?_, .inl ?_⟩
  ·rw [h1, show S.length = 0 by simpa using h2]
  ·simpa using h2
 ·refine ⟨_, _, h1, .inr ⟨g, 0, rfl, fun i hi => ?_⟩⟩
  have h2 := h.cells (g := g) (by rw [h1]; rfl) i (.string S[i]) (by simp [hi])
  have h3 : (⟨g, 0, none⟩ : Addr).add i = ⟨g, i, none⟩ := by unfold Addr.add; split <;> simp_all
  rw [h3] at h2
  rw [Nat.zero_add]
  exact h2

theorem contains_str2 (p : Option Addr) (c n : Nat) (S : List ByteArray) (v : ByteArray) (w : World) (hl : S.length = n) (hn : n ≤ 9223372036854775807) (h : StrsAt w p S) :
  Calls Tryd.prog 33 #[.slice p n c, .string v] w fun e w' => e = .returned (.bool (hasB S v)) ∧ w = w' := by
 subst hl
 exact contains_str _ _ _ _ _ hn h
theorem cell_one_at (w : World) (x : Value) (t : TypeId) (k : Nat) (hk : w.heap.size = k) : ∀ j u, [x][j]? = some u → (w.alloc (.cells #[x] t)).cell? ((⟨k, 0, none⟩ : Addr).add j) = some u := by
 subst hk
 exact cell_one_new w x t
theorem ownsRow_succ' {W : World} {base : Nat} {e : TypeId} {size : Nat} {v : Value} {k : Nat} {xs : List Value} (h : W.ownsRow base e size v (k + 1) xs) : ∃ g cap, v = .slice (some ⟨g, 0, none⟩) (k + 1) cap := by
 rcases h.2 with ⟨_, h0⟩ | ⟨g, cap, _, rfl, _⟩
 ·omega
 ·exact ⟨g, cap, rfl⟩
theorem gloE_12 {names : List ByteArray} {words : Int} {g : GloL} (h : (!nameB g.name) = true) : gloE names words g = 12 := by
 unfold gloE
 rw [if_pos (by simpa using h)]
theorem gloE_7 {names : List ByteArray} {words : Int} {g : GloL} (h : (!nameB g.name) = false) (h2 : hasB names g.name = true) : gloE names words g = 7 := by
 unfold gloE
 rw [if_neg (by simpa using h), if_pos h2]
theorem gloE_3 {names : List ByteArray} {words : Int} {g : GloL} (h : (!nameB g.name) = false) (h2 : hasB names g.name = false) (h3 : (!wthn g.size 1 200) = true) : gloE names words g = 3 := by
 unfold gloE
 simp only [wthn, Bool.not_eq_true', decide_eq_false_iff_not] at h3
 rw [if_neg (by simpa using h), if_neg (by simp [h2]), if_pos h3]
theorem wthn_yes {n lo hi : Int} (h : (!wthn n lo hi) = false) : lo ≤ n ∧ n ≤ hi := by
 simpa [wthn] using h
theorem gloE_9 {names : List ByteArray} {words : Int} {g : GloL} (h : (!nameB g.name) = false) (h2 : hasB names g.name = false) (h3 : (!wthn g.size 1 200) = false) (h4 : g.size < g.init.length) : gloE names words g = 9 := by
 have h3 := wthn_yes h3
 unfold gloE
 rw [if_neg (by simpa using h), if_neg (by simp [h2]), if_neg (by omega), if_pos h4]
theorem gloE_10 {names : List ByteArray} {words : Int} {g : GloL} (h : (!nameB g.name) = false) (h2 : hasB names g.name = false) (h3 : (!wthn g.size 1 200) = false) (h4 : ¬g.size < g.init.length) (h6 : 0 ≤ words ∧ words ≤ 200) (h5 : 200 < wrap64 (words + g.size)) : gloE names words g = 10 := by
 have h3 := wthn_yes h3
 rw [IntWalk.wrap64_in _ ⟨by omega, by omega⟩] at h5
 unfold gloE
 rw [if_neg (by simpa using h), if_neg (by simp [h2]), if_neg (by omega), if_neg h4, if_pos h5]
theorem gloE_0 {names : List ByteArray} {words : Int} {g : GloL} (h : (!nameB g.name) = false) (h2 : hasB names g.name = false) (h3 : (!wthn g.size 1 200) = false) (h4 : ¬g.size < g.init.length) (h6 : 0 ≤ words ∧ words ≤ 200) (h5 : wrap64 (words + g.size) ≤ 200) : gloE names words g = 0 ∧ wrap64 (words + g.size) = words + g.size ∧ 0 ≤ words + g.size ∧ words + g.size ≤ 200 := by
 have h3 := wthn_yes h3
 rw [IntWalk.wrap64_in _ ⟨by omega, by omega⟩] at h5 ⊢
 unfold gloE
 rw [if_neg (by simpa using h), if_neg (by simp [h2]), if_neg (by omega), if_neg h4, if_neg (by omega)]
 exact ⟨rfl, rfl, by omega, h5⟩
theorem res_two {w : World} {R : Nat} {T : TypeId} (h : w.heap[R]? = some (.cells #[.int .i64 0, .int .i64 0] T (0, 0))) (o1 o2 : Obj) (e a : Int) (j : Nat) :
  ((((w.setCell ⟨R, 0, none⟩ (.int .i64 e)).setCell ⟨R, 1, none⟩ (.int .i64 a)).alloc o1).alloc o2).cell? ⟨R, j, none⟩ = (#[.int .i64 e, .int .i64 a] : Array Value)[j]? :=
 (blk (heap_step (heap_step (heap_set (heap_set h 0 _) 1 _)))).1 j
theorem res_one {w : World} {R : Nat} {T : TypeId} (h : w.heap[R]? = some (.cells #[.int .i64 0, .int .i64 0] T (0, 0))) (o1 : Obj) (e a : Int) (j : Nat) :
  (((w.setCell ⟨R, 0, none⟩ (.int .i64 e)).setCell ⟨R, 1, none⟩ (.int .i64 a)).alloc o1).cell? ⟨R, j, none⟩ = (#[.int .i64 e, .int .i64 a] : Array Value)[j]? :=
 (blk (heap_step (heap_set (heap_set h 0 _) 1 _))).1 j
theorem cell_new_at (w : World) (A : Array Value) (t : TypeId) (j : Nat) {v : Value} (h : A[j]? = some v) : (w.alloc (.cells A t)).cell? ⟨w.heap.size, j, none⟩ = some v :=
 ((blk (heap_here w _)).1 j).trans h
theorem head_any2 (f : FunL) (names : List ByteArray) (g1 fp bp np : Option Addr) (g2 g3 fl fc bc nc n : Nat) (w : World) (hn : names.length = n)
  (hs : f.name.size ≤ maxLen) (hr1 : I64 f.params) (hr2 : I64 f.regs) (hbl : f.blocks.length * 96 ≤ 140737488351232) (hb : SliceAt w 6 (BlkR w) bp f.blocks) (hnl : n ≤ 9223372036854775807) (hN : StrsAt w np names) :
  Calls Tryd.prog 35 #[.agg #[.slice g1 g2 g3, .slice fp fl fc, .string f.name, .int .i64 f.params, .int .i64 f.regs, .slice bp f.blocks.length bc, .slice none 0 0], .slice np n nc] w fun e w' => e = .returned (.int .i64 (headE names f)) ∧ Below w.heap.size w w' := by
 subst hn
 exact head_any f names _ _ _ _ _ _ _ _ _ _ w hs hr1 hr2 hbl hb hnl hN
theorem blks_alloc2 {w : World} {p : Option Addr} {xs : List BlkL} (h : SliceAt w 6 (BlkR w) p xs) (o1 o2 : Obj) : SliceAt ((w.alloc o1).alloc o2) 6 (BlkR ((w.alloc o1).alloc o2)) p xs :=
 have hb : Below w.heap.size w ((w.alloc o1).alloc o2) := ((Below.refl _ _).alloc (Nat.le_refl _) _).alloc (by simp) _
 h.mono hb (by omega) fun _ _ h => h.below hb
theorem funs_alloc2 {w : World} {p : Option Addr} {xs : List FunL} (h : SliceAt w 4 (FunR w) p xs) (o1 o2 : Obj) : SliceAt ((w.alloc o1).alloc o2) 4 (FunR ((w.alloc o1).alloc o2)) p xs :=
 have hb : Below w.heap.size w ((w.alloc o1).alloc o2) := ((Below.refl _ _).alloc (Nat.le_refl _) _).alloc (by simp) _
 h.mono hb (by omega) fun _ _ h => h.below hb
theorem ownsRow_below {w w' : World} {base : Nat} {e : TypeId} {size : Nat} {v : Value} {n : Nat} {xs : List Value} (h : w.ownsRow base e size v n xs) (hb : Below w.heap.size w w') : w'.ownsRow base e size v n xs := by
 refine h.kept (row := none) ⟨hb.os, hb.tape, hb.output, hb.size, fun k hk _ => hb.block k hk⟩ ?_
 cases v.ownBlock with
 | none => exact .inl rfl
 | some k => exact .inr (by simp)
theorem res_zero {w : World} {R : Nat} {T : TypeId} (h : w.heap[R]? = some (.cells #[.int .i64 0, .int .i64 0] T (0, 0))) (j : Nat) :
  ((w.setCell ⟨R, 0, none⟩ (.int .i64 0)).setCell ⟨R, 1, none⟩ (.int .i64 0)).cell? ⟨R, j, none⟩ = (#[.int .i64 0, .int .i64 0] : Array Value)[j]? :=
 (blk (heap_set (heap_set h 0 _) 1 _)).1 j
theorem strs_own2 {w : World} {base k : Nat} {t : TypeId} {v : Value} {S : List ByteArray} (hl : S.length = k) (h : w.ownsRow base t 1 v k (S.map .string)) : ∃ p c, v = .slice p k c ∧ StrsAt w p S := by
 subst hl
 exact strs_own h

set_option maxRecDepth 100000 in
set_option maxHeartbeats 1000000 in
theorem check_any (u : UniL) (gp fp : Option Addr) (gc fc : Nat) (w : World) (hgl : u.globals.length * 48 ≤ 140737488351232) (hG : SliceAt w 3 (GloR w) gp u.globals) (hfl : u.funcs.length * 56 ≤ 140737488351232) (hF : SliceAt w 4 (FunR w) fp u.funcs) (hw0 : Ways w) :
  Calls Tryd.prog 14 #[.agg #[.slice gp u.globals.length gc, .slice fp u.funcs.length fc]] w fun e w' => e = .returned (.agg #[.int .i64 (chk u).1, .int .i64 (chk u).2]) ∧ Below w.heap.size w w' := by
 obtain ⟨i1, k1, k2, k3, k4⟩ := info_parts infoStr
 have HG := hidI hG
 have HF := hidI hF
 have HW := hidI hw0
 clear hG hF hw0
 by_cases hbig : 10 < u.globals.length ∨ 10 < u.funcs.length
 ·have HV := hidI (chk_big hbig)
  by_cases h1 : 10 < u.globals.length
  ·clear hbig
   go_enter Tryd.func14, Tryd.ntmps14
   go_wp2_with (go_at_call 24; refine (cfault_any _ _ _).mono ?_; rintro e w3 ⟨rfl, rfl⟩)
   refine bodyPost_ret (v := .agg #[.int .i64 2, .int .i64 0]) ?_ rfl ⟨by rw [HV.out], ?_⟩
   ·simp [results, Tryd.results14, go_sem]
   ·repeat (first | (with_reducible first | exact bR _ _ | exact bH ‹_› | refine bD ?_ | refine bN ?_ _ | refine bS ?_ ?_ _ | refine bA ?_ ?_ _ | refine bT hb3 ?_ ?_ | refine bT hb5 ?_ ?_ | refine bT hb4 ?_ ?_) | omega | (simp; omega) | simp)
  ·have h2 : 10 < u.funcs.length := by omega
   clear hbig
   go_enter Tryd.func14, Tryd.ntmps14
   go_wp2_with (go_at_call 24; refine (cfault_any _ _ _).mono ?_; rintro e w3 ⟨rfl, rfl⟩)
   refine bodyPost_ret (v := .agg #[.int .i64 2, .int .i64 0]) ?_ rfl ⟨by rw [HV.out], ?_⟩
   ·simp [results, Tryd.results14, go_sem]
   ·repeat (first | (with_reducible first | exact bR _ _ | exact bH ‹_› | refine bD ?_ | refine bN ?_ _ | refine bS ?_ ?_ _ | refine bA ?_ ?_ _ | refine bT hb3 ?_ ?_ | refine bT hb5 ?_ ?_ | refine bT hb4 ?_ ?_) | omega | (simp; omega) | simp)
 ·have h1 : u.globals.length ≤ 10 := by omega
  have h2 : u.funcs.length ≤ 10 := by omega
  have hd1 : decide (10 < (u.globals.length : Int)) = false := by simp; omega
  have hd2 : decide (10 < (u.funcs.length : Int)) = false := by simp; omega
  clear hbig
  go_enter Tryd.func14, Tryd.ntmps14
  go_wp2_with fail
  go_loopw [3, 4, 31] (fun nm wd i wr => ∃ k : Nat, k ≤ u.globals.length ∧ i = .int .i64 k ∧ wd = .int .i64 (wordsTo u k) ∧ (0 ≤ wordsTo u k ∧ wordsTo u k ≤ 200) ∧ wr.ownsRow (w.heap.size + 1 + 1) 9 1 nm k ((namesG u k).map .string) ∧ (∀ j, j < k → gloI u j = 0) ∧ Below (w.heap.size + 1 + 1) ((w.alloc (.cells #[.slice gp u.globals.length gc, .slice fp u.funcs.length fc] 25)).alloc (.cells #[.int .i64 0, .int .i64 0] 28)) wr) (fun _ _ i _ => u.globals.length - (intOf i).toNat)
  case atStart => exact ⟨0, by omega, rfl, rfl, by simp [wordsTo], World.ownsRow_nil _ _ _ _, fun j h => by omega, Below.refl _ _⟩
  case round =>
   obtain ⟨k, hk, rfl, rfl, ⟨hw1, hw2⟩, hown, hV, hb⟩ := hrel
   have HO := hidI hown
   have HV := hidI hV
   have HBw := hidI hb
   have hz : w.heap.size + 1 < wr.heap.size := by have := hb.size; simp at this; omega
   have hz2 : w.heap.size < wr.heap.size := by omega
   have HBx : Hid (Below w.heap.size w wr) := (((Below.refl _ _).alloc (Nat.le_refl _) _).alloc (by simp) _).trans (hb.mono (by omega))
   obtain ⟨hcc, hcf⟩ := blk (heap_below hb (by omega) (heap_step (heap_here w _)))
   have hx := res_two (heap_below hb (k := w.heap.size + 1) (by omega) (heap_at (w := w.alloc (.cells #[.slice gp u.globals.length gc, .slice fp u.funcs.length fc] 25)) (by simp)))
   obtain ⟨hcc3, hcf3⟩ := blk (heap_below hb (k := w.heap.size + 1) (by omega) (heap_at (w := w.alloc (.cells #[.slice gp u.globals.length gc, .slice fp u.funcs.length fc] 25)) (by simp)))
   obtain ⟨np, nc, rfl, hS⟩ : ∃ p c, u3 = .slice p k c ∧ StrsAt wr p (namesG u k) := by
    exact strs_own2 (by simp [namesG]; omega) hown
   have HS := hidI hS
   clear hown hV hb hS
   by_cases hlt : k < u.globals.length
   ·obtain ⟨b2, o2, q, c, hp, e0, e1, e2, hns, hgs, hil, _⟩ := gloGet HG.out HBx.out hlt
    have hgs1 := hgs.1
    have hgs2 := hgs.2
    clear hgs
    subst hp
    have HE : Hid (gloI u k = gloE (namesG u k) (wordsTo u k) u.globals[k]) := gloI_eq hlt
    have hnl : (namesG u k).length = k := by simp [namesG]; omega
    go_wp2_with (first | (go_at_call 32; refine (name_any _ _ (by unfold maxLen; omega)).mono ?_; rintro e w1 ⟨rfl, rfl⟩) | (go_at_call 33; refine (contains_str2 _ _ _ _ _ _ hnl (by omega) (strs_below HS.out ((Below.refl _ _).alloc (Nat.le_refl _) _))).mono ?_; rintro e w1 ⟨rfl, rfl⟩) | (go_at_call 34; refine (within_any _ _ _ _).mono ?_; rintro e w1 ⟨rfl, rfl⟩) | (go_at_call 24; refine (cfault_any _ _ _).mono ?_; rintro e w3 ⟨rfl, rfl⟩) | (at_builtin; refine wpList_append_own_at _ rfl _ _ 88 rfl (w.heap.size + 1 + 1) 9 i1 (.string ⟨#[]⟩) 1 16 underStrs k1 k2 k3 k4 rfl (by decide) _ _ _ rfl ((HO.out.alloc _).alloc _) ⟨wr.heap.size + 1, 0, none⟩ 1 1 [.string u.globals[k].name] rfl rfl (cell_one_at _ _ _ _ (by simp)) (by simp [Value.oneCell']) (by unfold maxLen; omega) (by omega) ?c1 ?_))
    case c1 => simp; omega
    rotate_right
    ·intro v' w1 hown' hgrow _ _
     obtain ⟨g', cap', rfl⟩ := ownsRow_succ' hown'
     have HO2 : Hid (w1.ownsRow (w.heap.size + 1 + 1) 9 1 (.slice (some ⟨g', 0, none⟩) (k + 1) cap') (k + 1) ((namesG u (k + 1)).map .string)) := by
      show World.ownsRow _ _ _ _ _ _ _
      rw [namesG_succ hlt, List.map_append]
      exact hown'
     have HB2 : Hid (Below (w.heap.size + 1 + 1) ((w.alloc (.cells #[.slice (some ⟨b2, o2, none⟩) u.globals.length gc, .slice fp u.funcs.length fc] 25)).alloc (.cells #[.int .i64 0, .int .i64 0] 28)) w1) := by
      refine ((HBw.out.alloc (by omega) _).alloc (by simp; omega) _).grown hgrow (by simp; omega) (fun kk e => ?_)
      exact (HO.out.lt kk e).1
     have hb3 : w1.cell? ⟨wr.heap.size, 1, none⟩ = some (.int .i64 u.globals[k].size) := by
      refine hgrow.cell (a := ⟨wr.heap.size, 1, none⟩) ?_ (fun e => ?_)
      ·rw [World.cell?_of_block (Below.heap_alloc _ _ _ (by simp))]
       exact cell_new_at _ _ _ _ rfl
      ·have := (HO.out.lt _ e.symm).2
       exact Nat.lt_irrefl _ this
     obtain ⟨hg0, hg1, hg2, hg3⟩ := gloE_0 (by assumption) (by assumption) (by assumption) (by omega) ⟨hw1, hw2⟩ (by assumption)
     have HG0 := hidI hg0
     have HG1 := hidI hg1
     clear hown' hgrow hg0 hg1
     go_wp2
     refine ⟨⟨k + 1, by omega, by go_num, ?_, ?_, HO2.out, fun j hj => ?_, HB2.out⟩, by simp [intOf]; omega⟩
     ·rw [wordsTo_succ hlt, ← HG1.out]
     ·rw [wordsTo_succ hlt]
      exact ⟨hg2, hg3⟩
     ·by_cases hj2 : j < k
      ·exact HV.out j hj2
      ·obtain rfl : j = k := by omega
       exact HE.out.trans HG0.out
    all_goals
     have HB1 := HBx
     have HX := hidI hx
     clear hx
     first
      | (have HC := hidI (chk_glo h1 h2 hlt HV.out (HE.out.trans (gloE_12 (by assumption))) (by decide)))
      | (have HC := hidI (chk_glo h1 h2 hlt HV.out (HE.out.trans (gloE_7 (by assumption) (by assumption))) (by decide)))
      | (have HC := hidI (chk_glo h1 h2 hlt HV.out (HE.out.trans (gloE_3 (by assumption) (by assumption) (by assumption))) (by decide)))
      | (have HC := hidI (chk_glo h1 h2 hlt HV.out (HE.out.trans (gloE_9 (by assumption) (by assumption) (by assumption) (by assumption))) (by decide)))
      | (have HC := hidI (chk_glo h1 h2 hlt HV.out (HE.out.trans (gloE_10 (by assumption) (by assumption) (by assumption) (by omega) ⟨hw1, hw2⟩ (by assumption))) (by decide)))
     refine bodyPost_ret (v := .agg #[.int .i64 (chk u).1, .int .i64 (chk u).2]) ?_ rfl ⟨rfl, ?_⟩
     ·have hx := HX.out
      rw [HC.out]
      simp [results, Tryd.results14, go_sem, hx]
     ·repeat (first | (with_reducible first | exact bR _ _ | exact bH ‹_› | refine bD ?_ | refine bN ?_ _ | refine bS ?_ ?_ _ | refine bA ?_ ?_ _ | refine bT hb3 ?_ ?_ | refine bT hb5 ?_ ?_ | refine bT hb4 ?_ ?_) | omega | (simp; omega) | simp)
   ·have HGZ : Hid (∀ j, j < u.globals.length → gloI u j = 0) := fun j hj => HV.out j (by omega)
    have hkk : k = u.globals.length := by omega
    have HN0 : Hid (wr.ownsRow (w.heap.size + 1 + 1) 9 1 (.slice np k nc) (u.globals.length + 0) ((namesF u 0).map .string)) := by
     have := HO.out
     rw [hkk] at this ⊢
     have hn : namesF u 0 = namesG u u.globals.length := by simp [namesF, namesG]
     rw [hn]
     exact this
    clear HV HO HS hkk hx
    go_wp2_with fail
    go_loopw [3, 82] (fun nm i wr => ∃ k : Nat, k ≤ u.funcs.length ∧ i = .int .i64 k ∧ wr.ownsRow (w.heap.size + 1 + 1) 9 1 nm (u.globals.length + k) ((namesF u k).map .string) ∧ (∀ j, j < k → headI u j = 0) ∧ Below (w.heap.size + 1 + 1) ((w.alloc (.cells #[.slice gp u.globals.length gc, .slice fp u.funcs.length fc] 25)).alloc (.cells #[.int .i64 0, .int .i64 0] 28)) wr) (fun _ i _ => u.funcs.length - (intOf i).toNat)
    case atStart => exact ⟨0, by omega, rfl, HN0.out, fun j h => by omega, HBw.out⟩
    case round =>
     clear HN0 HBw hcc hcf hcc3 hcf3 HBx hz hz2
     obtain ⟨k, hk, rfl, hown, hV, hb⟩ := hrel
     have HO := hidI hown
     have HV := hidI hV
     have HBw := hidI hb
     have hz : w.heap.size + 1 < wr.heap.size := by have := hb.size; simp at this; omega
     have hz2 : w.heap.size < wr.heap.size := by omega
     have HBx : Hid (Below w.heap.size w wr) := (((Below.refl _ _).alloc (Nat.le_refl _) _).alloc (by simp) _).trans (hb.mono (by omega))
     obtain ⟨hcc, hcf⟩ := blk (heap_below hb (by omega) (heap_step (heap_here w _)))
     have hRr := heap_below hb (k := w.heap.size + 1) (by omega) (heap_at (w := w.alloc (.cells #[.slice gp u.globals.length gc, .slice fp u.funcs.length fc] 25)) (o := .cells #[.int .i64 0, .int .i64 0] 28) (by simp))
     obtain ⟨hcc3, hcf3⟩ := blk hRr
     have HRr := hidI hRr
     have hnl : (namesF u k).length = u.globals.length + k := by simp [namesF]; omega
     obtain ⟨np, nc, hnm, hS⟩ := strs_own2 hnl hown
     subst hnm
     have HS := hidI hS
     clear hown hV hb hS hRr
     by_cases hlt : k < u.funcs.length
     ·obtain ⟨b2, o2, q, c, hp, e0, e1, e2, e3, hns, hr1, hr2, hbl, hbs⟩ := funGet HF.out HBx.out hlt
      subst hp
      have HBS := hidI hbs
      have HR1 := hidI hr1
      have HR2 := hidI hr2
      have HE : Hid (headI u k = headE (namesF u k) u.funcs[k]) := headI_eq hlt
      clear hbs hr1 hr2
      go_wp2_with fail
      refine (head_any2 _ _ _ _ _ _ _ _ _ _ _ _ _ _ hnl (by unfold maxLen; omega) HR1.out HR2.out hbl ?_ (by omega) ?_).mono ?_
      ·exact blks_alloc2 HBS.out _ _
      ·exact strs_below HS.out (((Below.refl _ _).alloc (Nat.le_refl _) _).alloc (by simp) _)
      rintro e w3 ⟨rfl, hb3⟩
      generalize hE : headE (namesF u k) u.funcs[k] = ee
      have HE2 : Hid (headI u k = ee) := HE.out.trans hE
      have HW3 : Hid (Below wr.heap.size wr w3) := (((Below.refl _ _).alloc (Nat.le_refl _) _).alloc (by simp) _).trans (hb3.mono (by simp; omega))
      have hn3 : w3.cell? ⟨wr.heap.size, 0, none⟩ = some (.string u.funcs[k].name) := by
       rw [(blk (heap_below hb3 (by simp; omega) (heap_step (heap_here wr _)))).1 0]; rfl
      have hR3 := heap_below HW3.out hz HRr.out
      have hx := res_one hR3
      have HB1 : Hid (Below w.heap.size w w3) := HBx.out.trans (HW3.out.mono (by omega))
      have hz3 : wr.heap.size < w3.heap.size := by have := hb3.size; simp at this; omega
      have hz4 : w.heap.size + 1 < w3.heap.size := by omega
      clear hcc3 hcf3 hcc hcf
      obtain ⟨hcc3, hcf3⟩ := blk hR3
      clear hE HE hb3 hR3
      by_cases hz0 : ee = 0
      ·have hzb : (ee != 0) = false := by simp [hz0]
       have HZ := hidI hz0
       have HO3 := hidI (ownsRow_below HO.out HW3.out)
       clear hz0 hx
       go_wp2_with (at_builtin; refine wpList_append_own_at _ rfl _ _ 88 rfl (w.heap.size + 1 + 1) 9 i1 (.string ⟨#[]⟩) 1 16 underStrs k1 k2 k3 k4 rfl (by decide) _ _ _ rfl (HO3.out.alloc _) ⟨w3.heap.size, 0, none⟩ 1 1 [.string u.funcs[k].name] rfl rfl (cell_one_at _ _ _ _ (by simp)) (by simp [Value.oneCell']) (by unfold maxLen; omega) (by omega) ?_ ?_)
       ·simp; omega
       intro v' w1 hown' hgrow _ _
       obtain ⟨g', cap', rfl⟩ := ownsRow_succ' hown'
       have HO2 : Hid (w1.ownsRow (w.heap.size + 1 + 1) 9 1 (.slice (some ⟨g', 0, none⟩) (u.globals.length + k + 1) cap') (u.globals.length + (k + 1)) ((namesF u (k + 1)).map .string)) := by
        show World.ownsRow _ _ _ _ _ _ _
        rw [namesF_succ hlt, List.map_append]
        exact hown'
       have HB2 : Hid (Below (w.heap.size + 1 + 1) ((w.alloc (.cells #[.slice gp u.globals.length gc, .slice (some ⟨b2, o2, none⟩) u.funcs.length fc] 25)).alloc (.cells #[.int .i64 0, .int .i64 0] 28)) w1) := by
        refine ((HBw.out.trans (HW3.out.mono (by omega))).alloc (by omega) _).grown hgrow (by simp; omega) (fun kk e => ?_)
        exact (HO.out.lt kk e).1
       clear hown' hgrow
       go_wp2_with fail
       refine ⟨⟨k + 1, by omega, by go_num, HO2.out, fun j hj => ?_, HB2.out⟩, by simp [intOf]; omega⟩
       by_cases hj2 : j < k
       ·exact HV.out j hj2
       ·obtain rfl : j = k := by omega
        exact HE2.out.trans HZ.out
      ·have hzb : (ee != 0) = true := by simp [hz0]
       have HZ := hidI hz0
       have HX := hidI hx
       have HC := hidI (chk_head h1 h2 HGZ.out hlt HV.out HE2.out hz0)
       clear hz0 hx
       go_wp2_with (go_at_call 24; refine (cfault_any _ _ _).mono ?_; rintro e w4 ⟨rfl, rfl⟩)
       refine bodyPost_ret (v := .agg #[.int .i64 (chk u).1, .int .i64 (chk u).2]) ?_ rfl ⟨rfl, ?_⟩
       ·have hx := HX.out
        rw [HC.out]
        simp [results, Tryd.results14, go_sem, hx]
       ·repeat (first | (with_reducible first | exact bR _ _ | exact bH ‹_› | refine bD ?_ | refine bN ?_ _ | refine bS ?_ ?_ _ | refine bA ?_ ?_ _ | refine bT hb3 ?_ ?_ | refine bT hb5 ?_ ?_ | refine bT hb4 ?_ ?_) | omega | (simp; omega) | simp)
     ·have HHZ : Hid (∀ j, j < u.funcs.length → headI u j = 0) := fun j hj => HV.out j (by omega)
      clear HV HO HS
      go_wp2_with fail
      go_loopw [107] (fun i wr => ∃ k : Nat, k ≤ u.funcs.length ∧ i = .int .i64 k ∧ (∀ j, j < k → bodyI u j = 0) ∧ Below (w.heap.size + 1 + 1) ((w.alloc (.cells #[.slice gp u.globals.length gc, .slice fp u.funcs.length fc] 25)).alloc (.cells #[.int .i64 0, .int .i64 0] 28)) wr) (fun i _ => u.funcs.length - (intOf i).toNat)
      case atStart => exact ⟨0, by omega, rfl, fun j h => by omega, HBw.out⟩
      case round =>
       clear HBw hcc hcf hcc3 hcf3 HBx hz hz2 HRr
       obtain ⟨k, hk, rfl, hV, hb⟩ := hrel
       have HV := hidI hV
       have HBw := hidI hb
       have hz : w.heap.size + 1 < wr.heap.size := by have := hb.size; simp at this; omega
       have hz2 : w.heap.size < wr.heap.size := by omega
       have HBx : Hid (Below w.heap.size w wr) := (((Below.refl _ _).alloc (Nat.le_refl _) _).alloc (by simp) _).trans (hb.mono (by omega))
       obtain ⟨hcc, hcf⟩ := blk (heap_below hb (by omega) (heap_step (heap_here w _)))
       have hRr := heap_below hb (k := w.heap.size + 1) (by omega) (heap_at (w := w.alloc (.cells #[.slice gp u.globals.length gc, .slice fp u.funcs.length fc] 25)) (o := .cells #[.int .i64 0, .int .i64 0] 28) (by simp))
       obtain ⟨hcc3, hcf3⟩ := blk hRr
       have HRr := hidI hRr
       clear hV hb hRr
       by_cases hlt : k < u.funcs.length
       ·obtain ⟨b2, o2, q, c, hp, e0, e1, e2, e3, hns, hr1, hr2, hbl, hbs⟩ := funGet HF.out HBx.out hlt
        subst hp
        obtain ⟨⟨hp0, hp1⟩, ⟨hp2, hp3⟩, ⟨hp4, hp5⟩, _⟩ := headE_zero ((headI_eq hlt).symm.trans (HHZ.out k hlt))
        obtain ⟨qb, qo, rfl⟩ : ∃ qb qo, q = some ⟨qb, qo, none⟩ := by
         rcases hbs with h0 | ⟨b, o, hp, _⟩
         ·rw [h0] at hp4; simp at hp4
         ·exact ⟨b, o, hp⟩
        have HBS := hidI hbs
        have HE : Hid (bodyI u k = bodyE u u.funcs[k]) := bodyI_eq hlt
        clear hbs hr1 hr2
        go_wp2_with fail
        refine (body_any u u.funcs[k] _ _ _ _ _ _ _ _ _ (by omega) (by omega) hp4 hp5 h2 ?_ ?_ ?_).mono ?_
        ·exact funs_alloc2 (HF.out.mono HBx.out (by omega) fun _ _ h => h.below HBx.out) _ _
        ·exact blks_alloc2 HBS.out _ _
        ·exact HW.out.below ((HBx.out.alloc (by omega) _).alloc (by simp; omega) _)
        rintro e w3 ⟨rfl, hb3⟩
        generalize hE : bodyE u u.funcs[k] = ee
        have HE2 : Hid (bodyI u k = ee) := HE.out.trans hE
        have HW3 : Hid (Below wr.heap.size wr w3) := (((Below.refl _ _).alloc (Nat.le_refl _) _).alloc (by simp) _).trans (hb3.mono (by simp; omega))
        have hR3 := heap_below HW3.out hz HRr.out
        have hx := res_one hR3
        have HB1 : Hid (Below w.heap.size w w3) := HBx.out.trans (HW3.out.mono (by omega))
        have hz4 : w.heap.size + 1 < w3.heap.size := by have := hb3.size; simp at this; omega
        clear hcc3 hcf3 hcc hcf
        obtain ⟨hcc3, hcf3⟩ := blk hR3
        clear hE HE hb3 hR3
        by_cases hz0 : ee = 0
        ·have hzb : (ee != 0) = false := by simp [hz0]
         have HZ := hidI hz0
         clear hz0 hx
         go_wp2_with fail
         refine ⟨⟨k + 1, by omega, by go_num, fun j hj => ?_, HBw.out.trans (HW3.out.mono (by omega))⟩, by simp [intOf]; omega⟩
         by_cases hj2 : j < k
         ·exact HV.out j hj2
         ·obtain rfl : j = k := by omega
          exact HE2.out.trans HZ.out
        ·have hzb : (ee != 0) = true := by simp [hz0]
         have HZ := hidI hz0
         have HX := hidI hx
         have HC := hidI (chk_body h1 h2 HGZ.out HHZ.out hlt HV.out HE2.out hz0)
         clear hz0 hx
         go_wp2_with (go_at_call 24; refine (cfault_any _ _ _).mono ?_; rintro e w4 ⟨rfl, rfl⟩)
         refine bodyPost_ret (v := .agg #[.int .i64 (chk u).1, .int .i64 (chk u).2]) ?_ rfl ⟨rfl, ?_⟩
         ·have hx := HX.out
          rw [HC.out]
          simp [results, Tryd.results14, go_sem, hx]
         ·repeat (first | (with_reducible first | exact bR _ _ | exact bH ‹_› | refine bD ?_ | refine bN ?_ _ | refine bS ?_ ?_ _ | refine bA ?_ ?_ _ | refine bT hb3 ?_ ?_ | refine bT hb5 ?_ ?_ | refine bT hb4 ?_ ?_) | omega | (simp; omega) | simp)
       ·have HC := hidI (chk_main h1 h2 HGZ.out HHZ.out (fun j hj => HV.out j (by omega)))
        clear HV
        go_wp2_with fail
        refine (indexMain_any u.funcs _ _ _ (by omega) (HF.out.mono HBx.out (by omega) fun _ _ h => h.below HBx.out)).mono ?_
        rintro e w3 ⟨rfl, hb3⟩
        have hR3 := heap_below hb3 hz HRr.out
        have hx := res_one hR3
        have hx0 := res_zero hR3
        have hcc0 := (blk (heap_below hb3 hz2 (heap_below HBw.out (by omega) (heap_step (heap_here w _))))).1
        have HB1 : Hid (Below w.heap.size w w3) := HBx.out.trans (hb3.mono (by omega))
        have hz4 : w.heap.size + 1 < w3.heap.size := by have := hb3.size; omega
        have hz5 : w.heap.size < w3.heap.size := by omega
        clear hcc3 hcf3 hcc hcf
        obtain ⟨hcc3, hcf3⟩ := blk hR3
        clear hb3 hR3
        cases hm : mainI u.funcs with
        | none =>
         have HC2 : Hid (chk u = (6, 0)) := by
          show _ = _
          rw [HC.out, hm]
         have ho : optI none = -1 := rfl
         rw [ho]
         have HX := hidI hx
         clear hm HC hx hx0 ho
         go_wp2_with (go_at_call 24; refine (cfault_any _ _ _).mono ?_; rintro e w4 ⟨rfl, rfl⟩)
         refine bodyPost_ret (v := .agg #[.int .i64 (chk u).1, .int .i64 (chk u).2]) ?_ rfl ⟨rfl, ?_⟩
         ·have hx := HX.out
          rw [HC2.out]
          simp [results, Tryd.results14, go_sem, hx]
         ·repeat (first | (with_reducible first | exact bR _ _ | exact bH ‹_› | refine bD ?_ | refine bN ?_ _ | refine bS ?_ ?_ _ | refine bA ?_ ?_ _ | refine bT hb3 ?_ ?_ | refine bT hb5 ?_ ?_ | refine bT hb4 ?_ ?_) | omega | (simp; omega) | simp)
        | some m =>
         have hml : m < u.funcs.length := List.mem_range.1 (List.mem_of_find?_eq_some hm)
         obtain ⟨b2, o2, q, c, hp, e0, e1, e2, e3, hns, hr1, hr2, hbl, hbs⟩ := funGet HF.out HB1.out hml
         subst hp
         have hpar : parU u m = u.funcs[m].params := by simp [parU, List.getD, hml]
         have HC2 : Hid (chk u = if 0 < u.funcs[m].params then (5, (m : Int)) else (0, 0)) := by
          show _ = _
          rw [HC.out, hm]
          simp only
          rw [hpar]
         have ho : optI (some m) = (m : Int) := rfl
         rw [ho]
         have HX := hidI hx
         have HX0 := hidI hx0
         clear hm HC hx hx0 ho hpar hbs hr1 hr2
         by_cases hpm : 0 < u.funcs[m].params
         ·have HC3 := HC2.out
          rw [if_pos hpm] at HC3
          have HC4 := hidI HC3
          clear HC2 HC3
          go_wp2_with (go_at_call 24; refine (cfault_any _ _ _).mono ?_; rintro e w4 ⟨rfl, rfl⟩)
          refine bodyPost_ret (v := .agg #[.int .i64 (chk u).1, .int .i64 (chk u).2]) ?_ rfl ⟨rfl, ?_⟩
          ·have hx := HX.out
           rw [HC4.out]
           simp [results, Tryd.results14, go_sem, hx]
          ·repeat (first | (with_reducible first | exact bR _ _ | exact bH ‹_› | refine bD ?_ | refine bN ?_ _ | refine bS ?_ ?_ _ | refine bA ?_ ?_ _ | refine bT hb3 ?_ ?_ | refine bT hb5 ?_ ?_ | refine bT hb4 ?_ ?_) | omega | (simp; omega) | simp)
         ·have HC3 := HC2.out
          rw [if_neg hpm] at HC3
          have HC4 := hidI HC3
          clear HC2 HC3
          go_wp2_with fail
          refine bodyPost_ret (v := .agg #[.int .i64 (chk u).1, .int .i64 (chk u).2]) ?_ rfl ⟨rfl, ?_⟩
          ·have hx := HX0.out
           rw [HC4.out]
           simp [results, Tryd.results14, go_sem, hx]
          ·repeat (first | (with_reducible first | exact bR _ _ | exact bH ‹_› | refine bD ?_ | refine bN ?_ _ | refine bS ?_ ?_ _ | refine bA ?_ ?_ _ | refine bT hb3 ?_ ?_ | refine bT hb5 ?_ ?_ | refine bT hb4 ?_ ?_) | omega | (simp; omega) | simp)
end Go.Proofs.YtdjamkinijhjoaaDoor
