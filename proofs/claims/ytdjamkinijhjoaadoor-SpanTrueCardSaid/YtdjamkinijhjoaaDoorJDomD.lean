/-
  The contract of core.Vals: an iterator over what an instruction takes.
  The contract of graph.Ahead: of each block the blocks that lead to it (the same text as code.ahead's).
-/
import Derived.WalkKit
import Derived.WalkSpells
import Derived.WalkLawsBesides
import Derived.Test.YtdjamkinijhjoaaDoorJChkH
import Derived.Test.YtdjamkinijhjoaaDoorJDomA
import Derived.Test.YtdjamkinijhjoaaDoorJEachV
import Derived.Maps.AppendAt
import Derived.Test.YtdjamkinijhjoaaDoorJChkN
namespace Go.Proofs.YtdjamkinijhjoaaDoor
open Go.RowKit Go.Shelf
attribute [local go_sem] Oper.semAt_some

def KC (W W' : World) : Prop := ∀ b o v, W.cell? ⟨b, o, none⟩ = some v → W'.cell? ⟨b, o, none⟩ = some v
theorem KC.refl (W : World) : KC W W := fun _ _ _ h => h
theorem KC.trans {A B C : World} (h : KC A B) (k : KC B C) : KC A C := fun b o v hv => k b o v (h b o v hv)
theorem KC.below {W W' : World} (h : Below W.heap.size W W') : KC W W' := fun b o _v hv => (h.cell (p := ⟨b, o, none⟩) (lt_of_cell hv)).trans hv
theorem KC.putObj {W : World} {l : Nat} {o : Obj} (o' : Obj) (hl : W.heap[l]? = some o) (ho : o.isCells = false) : KC W (W.putObj l o') := fun b a v hv =>
 (World.cell?_of_block (a := ⟨b, a, none⟩) (World.putObj_heap_other (by have := cell_noCells hl ho hv; omega))).trans hv
theorem KC.own {W W' : World} {B : Nat} {row : Option Nat} (hg : W.grownBy W' row) (hr : ∀ r, row = some r → B ≤ r ∧ ∃ o : Obj, W.heap[r]? = some o ∧ o.isCells = false) : KC W W' := fun b o v hv =>
 (World.cell?_of_block (a := ⟨b, o, none⟩) (hg.block b (lt_of_cell hv) (fun e => by
  obtain ⟨_, x, hx, hn⟩ := hr b e.symm
  exact cell_noCells hx hn hv rfl))).trans hv

theorem vals_any (x : Array Value) (w : World) :
  Calls Tryd.prog 109 #[.agg x] w fun e w' => e = .returned (.func (.func 135) #[] #[.pointer (some ⟨w.heap.size, 0, none⟩)]) ∧ w' = w.alloc (.cells x 53) := by
 go_enter Tryd.func109, Tryd.ntmps109
 go_wp2
 go_ret
 exact ⟨rfl, rfl⟩

def valEl (x : InsL) (i : Nat) : Array Value := #[.agg #[.bool ((takes x).getD i (false, 0)).1, .int .i64 ((takes x).getD i (false, 0)).2]]
structure ValSh (X : Nat) (q : Option Addr) (c : Nat) (x : InsL) (W : World) : Prop where
 c0 : W.cell? ⟨X, 0, none⟩ = some (.int .i64 x.op)
 c2 : W.cell? ⟨X, 2, none⟩ = some (.bool x.ar)
 c3 : W.cell? ⟨X, 3, none⟩ = some (.int .i64 x.an)
 c4 : W.cell? ⟨X, 4, none⟩ = some (.bool x.br)
 c5 : W.cell? ⟨X, 5, none⟩ = some (.int .i64 x.bn)
 c7 : W.cell? ⟨X, 7, none⟩ = some (.slice q x.args.length c)
 arg : ∀ i (h : i < x.args.length), ∃ b o, q = some ⟨b, o, none⟩ ∧ W.cell? ⟨b, o + i * 2, none⟩ = some (.bool x.args[i].1) ∧ W.cell? ⟨b, o + i * 2 + 1, none⟩ = some (.int .i64 x.args[i].2)
theorem ValSh.kc {X c : Nat} {q : Option Addr} {x : InsL} {W W' : World} (h : ValSh X q c x W) (k : KC W W') : ValSh X q c x W' :=
 ⟨k _ _ _ h.c0, k _ _ _ h.c2, k _ _ _ h.c3, k _ _ _ h.c4, k _ _ _ h.c5, k _ _ _ h.c7, fun i hi => by
  obtain ⟨b, o, h1, h2, h3⟩ := h.arg i hi
  exact ⟨b, o, h1, k _ _ _ h2, k _ _ _ h3⟩⟩

theorem abides_alloc {β : Type} {B : Nat} {J : β → World → Prop} (h : AbidesFrom B J) {s : β} {W : World} (o : Obj) (hs : J s W) : J s (W.alloc o) :=
 h s W _ none hs (World.grownBy_alloc W o none) (fun r e => by cases e)
theorem shB_A {op : Int} (h : shB op = true) : shA op = true := by
 unfold shB at h
 unfold shA
 rw [decide_eq_true_eq] at h ⊢
 omega
theorem takes_arg {x : InsL} {K0 : Nat} (_hk : (takes x).length = K0 + x.args.length) (h : ∃ l, takes x = l ++ x.args ∧ l.length = K0) {i : Nat} (hi : i < x.args.length) : valEl x (K0 + i) = #[.agg #[.bool x.args[i].1, .int .i64 x.args[i].2]] := by
 obtain ⟨l, e, hl⟩ := h
 unfold valEl
 have e2 : (takes x).getD (K0 + i) (false, 0) = x.args[i] := by
  rw [List.getD_eq_getElem?_getD, e, List.getElem?_append_right (by omega), hl]
  have e3 : K0 + i - K0 = i := by omega
  rw [e3, List.getElem?_eq_getElem hi]
  rfl
 rw [e2]

set_option maxRecDepth 100000 in
set_option maxHeartbeats 4000000 in
theorem vals_at (X c : Nat) (q : Option Addr) (x : InsL) (w : World) (hop : 1 ≤ x.op ∧ x.op ≤ 22) (hl : x.args.length * 16 ≤ 140737488351232) (hsh : ValSh X q c x w) :
  SeqAt Fence.wide 2 Tryd.prog 135 #[.pointer (some ⟨X, 0, none⟩)] (valEl x) (takes x).length KC w := by
 intro l J Jx W hW hJ hJx hY h0
 have HS := hidI (hsh.kc (KC.below hW))
 have HY := hidI hY
 have HJ := hidI hJ
 have hsp := fun w => shapes_any x.op w hop
 have hN : takes x = (if shA x.op = true then [(x.ar, x.an)] else []) ++ (if shB x.op = true then [(x.br, x.bn)] else []) ++ x.args := rfl
 have hBA := @shB_A x.op
 have HNil : Hid (∀ (K0 : Nat) (W1 : World), (∃ l, takes x = l ++ x.args ∧ l.length = K0) → J K0 W1 → ValSh X q c x W1 → True) := hidI fun _ _ _ _ _ => trivial
 clear hsh hY hW hop hJ hJx HNil
 refine callsIn_of_wp Tryd.func135 rfl trivial ?_ rfl
 simp only [Tryd.ntmps135, List.size_toArray, List.length_cons, List.length_nil, Nat.reduceAdd, Nat.reduceSub, Array.replicate_succ, Array.replicate_zero, List.push_toArray, List.append_toArray, List.nil_append, List.cons_append]
 have c0 := HS.out.c0
 have hzX := lt_of_cell c0
 cases hA : shA x.op
 ·have hB : shB x.op = false := by
   cases h : shB x.op
   ·rfl
   ·rw [hBA h] at hA; cases hA
  simp only [hA, hB] at hsp
  rw [hA, hB] at hN
  have HN := hidI (show ∃ l, takes x = l ++ x.args ∧ l.length = 0 from ⟨[], by rw [hN]; rfl, rfl⟩)
  have HSp := hidI hsp
  have c7 := HS.out.c7
  have HJ0 : Hid (J (0 + 0) ((W.alloc (.cells #[.bool (shD x.op), .bool false, .bool false] 154)).alloc (.cells #[.bool (shD x.op), .bool false, .bool false] 154))) := hidI (abides_alloc HJ.out _ (abides_alloc HJ.out _ h0))
  have HSh : Hid (ValSh X q c x ((W.alloc (.cells #[.bool (shD x.op), .bool false, .bool false] 154)).alloc (.cells #[.bool (shD x.op), .bool false, .bool false] 154))) := hidI (HS.out.kc (KC.below (((Below.refl _ _).alloc (Nat.le_refl _) _).alloc (by simp) _)))
  clear hsp hN hA hB hBA h0
  gi_wp2_with (refine ⟨trivial, ?_⟩; gi_at_call 86; refine ((callsIn_wide (n := 1)).2 (HSp.out _)).mono ?_; rintro e w2 ⟨rfl, rfl⟩)
  refine ⟨(fun _ h => by cases h), ?_⟩
  gi_wp2
  clear c0 c7
  gi_loopw [32] (fun i wr => ∃ j : Nat, j ≤ x.args.length ∧ i = .int .i64 j ∧ J (0 + j) wr ∧ ValSh X q c x wr) (fun i _ => x.args.length - (intOf i).toNat)
  case atStart => exact ⟨0, by omega, rfl, HJ0.out, HSh.out⟩
  case round =>
   obtain ⟨j, hj, rfl, hJj, hV⟩ := hrel
   have HV := hidI hV
   have HJj := hidI hJj
   clear hV hJj HJ0 HSh
   by_cases hjl : j < x.args.length
   ·obtain ⟨b, o, hq, a0, a1⟩ := HV.out.arg j hjl
    subst hq
    have hlen : (takes x).length = 0 + x.args.length := by
     obtain ⟨l, e, hl⟩ := HN.out
     rw [e, List.length_append, hl]
    have he := takes_arg hlen HN.out hjl
    have hy := HY.out (0 + j) (wr.alloc (.cells #[.bool x.args[j].1, .int .i64 x.args[j].2] 45)) (by omega) (abides_alloc HJ.out _ HJj.out)
    rw [he] at hy
    obtain ⟨fn, tmps, assign, body, hy, hR⟩ := hy
    have HR := hidI hR
    have hjb := lt_of_cell a0
    have hlt : 0 + j < (takes x).length := by omega
    clear hR he hlen
    generalize x.args[j] = av at *
    gi_wp2
    refine HR.out.mono ?_
    rintro e W3 (⟨rfl, hJ3, hk3⟩ | ⟨rfl, hJx3⟩)
    ·have HK3 := hidI (HV.out.kc ((KC.below ((Below.refl _ _).alloc (Nat.le_refl _) _)).trans hk3))
     clear hk3
     gi_wp2
     go_roundw
     case rel => exact ⟨j + 1, by omega, by go_num, hJ3, HK3.out⟩
     case measure => simp [intOf]; omega
    ·gi_wp2
     refine bodyPost_ret (results_none rfl _ _ _) rfl ?_
     exact ⟨⟨_, rfl⟩, .inr ⟨_, hlt, hJx3⟩⟩
   ·have hlen : (takes x).length = 0 + x.args.length := by
     obtain ⟨l, e, hl⟩ := HN.out
     rw [e, List.length_append, hl]
    obtain rfl : j = x.args.length := by omega
    gi_wp2
    go_end0
    exact ⟨⟨_, rfl⟩, .inl (by rw [hlen]; exact HJj.out)⟩
 ·cases hB : shB x.op
  ·simp only [hA, hB] at hsp
   rw [hA, hB] at hN
   have HN := hidI (show ∃ l, takes x = l ++ x.args ∧ l.length = 1 from ⟨[(x.ar, x.an)], by rw [hN]; rfl, rfl⟩)
   have HSp := hidI hsp
   have HE0 : Hid (valEl x 0 = #[.agg #[.bool x.ar, .int .i64 x.an]]) := hidI (by unfold valEl; rw [hN]; rfl)
   have HLen : Hid ((takes x).length = 1 + x.args.length) := hidI (by rw [hN]; simp; omega)
   have HJ0 : Hid (J 0 ((W.alloc (.cells #[.bool (shD x.op), .bool true, .bool false] 154)).alloc (.cells #[.bool (shD x.op), .bool true, .bool false] 154))) := hidI (abides_alloc HJ.out _ (abides_alloc HJ.out _ h0))
   have HSh : Hid (ValSh X q c x ((W.alloc (.cells #[.bool (shD x.op), .bool true, .bool false] 154)).alloc (.cells #[.bool (shD x.op), .bool true, .bool false] 154))) := hidI (HS.out.kc (KC.below (((Below.refl _ _).alloc (Nat.le_refl _) _).alloc (by simp) _)))
   clear hsp hN hA hB hBA h0
   have c2 := HS.out.c2
   have c3 := HS.out.c3
   have csB : ((W.alloc (.cells #[.bool (shD x.op), .bool true, .bool false] 154)).alloc (.cells #[.bool (shD x.op), .bool true, .bool false] 154)).cell? ⟨W.heap.size + 1, 2, none⟩ = some (.bool false) := (blk (heap_at (by simp))).1 2
   have HcsB := hidI csB
   clear csB
   have hy := HY.out 0 ((W.alloc (.cells #[.bool (shD x.op), .bool true, .bool false] 154)).alloc (.cells #[.bool (shD x.op), .bool true, .bool false] 154)) (by rw [HLen.out]; omega) HJ0.out
   rw [show valEl x 0 = #[.agg #[.bool x.ar, .int .i64 x.an]] from HE0.out] at hy
   obtain ⟨fn, tmps, assign, body, hy, hR⟩ := hy
   have HR := hidI hR
   clear hR
   gi_wp2_with (refine ⟨trivial, ?_⟩; gi_at_call 86; refine ((callsIn_wide (n := 1)).2 (HSp.out _)).mono ?_; rintro e w2 ⟨rfl, rfl⟩)
   refine HR.out.mono ?_
   rintro e W3 (⟨rfl, hJ3, hk3⟩ | ⟨rfl, hJx3⟩)
   ·have hcs := hk3 _ _ _ HcsB.out
    have hsz := lt_of_cell hcs
    have HSh3 := hidI (HSh.out.kc hk3)
    have c7 := HSh3.out.c7
    have hzX3 := lt_of_cell c7
    have HJ1 := hidI hJ3
    clear hJ3 hk3 c0 c2 c3 hzX HSh HJ0 HR hy
    gi_wp2
    refine ⟨(fun _ h => by cases h), ?_⟩
    gi_wp2
    clear hcs c7
    have HJ0 : Hid (J (1 + 0) W3) := HJ1
    have HSh := HSh3
    gi_loopw [32] (fun i wr => ∃ j : Nat, j ≤ x.args.length ∧ i = .int .i64 j ∧ J (1 + j) wr ∧ ValSh X q c x wr) (fun i _ => x.args.length - (intOf i).toNat)
    case atStart => exact ⟨0, by omega, rfl, HJ0.out, HSh.out⟩
    case round =>
     obtain ⟨j, hj, rfl, hJj, hV⟩ := hrel
     have HV := hidI hV
     have HJj := hidI hJj
     clear hV hJj HJ0 HSh
     by_cases hjl : j < x.args.length
     ·obtain ⟨b, o, hq, a0, a1⟩ := HV.out.arg j hjl
      subst hq
      have hlen : (takes x).length = 1 + x.args.length := by
       obtain ⟨l, e, hl⟩ := HN.out
       rw [e, List.length_append, hl]
      have he := takes_arg hlen HN.out hjl
      have hy := HY.out (1 + j) (wr.alloc (.cells #[.bool x.args[j].1, .int .i64 x.args[j].2] 45)) (by omega) (abides_alloc HJ.out _ HJj.out)
      rw [he] at hy
      obtain ⟨fn, tmps, assign, body, hy, hR⟩ := hy
      have HR := hidI hR
      have hjb := lt_of_cell a0
      have hlt : 1 + j < (takes x).length := by omega
      clear hR he hlen
      generalize x.args[j] = av at *
      gi_wp2
      refine HR.out.mono ?_
      rintro e W3 (⟨rfl, hJ3, hk3⟩ | ⟨rfl, hJx3⟩)
      ·have HK3 := hidI (HV.out.kc ((KC.below ((Below.refl _ _).alloc (Nat.le_refl _) _)).trans hk3))
       clear hk3
       gi_wp2
       go_roundw
       case rel => exact ⟨j + 1, by omega, by go_num, hJ3, HK3.out⟩
       case measure => simp [intOf]; omega
      ·gi_wp2
       refine bodyPost_ret (results_none rfl _ _ _) rfl ?_
       exact ⟨⟨_, rfl⟩, .inr ⟨_, hlt, hJx3⟩⟩
     ·have hlen : (takes x).length = 1 + x.args.length := by
       obtain ⟨l, e, hl⟩ := HN.out
       rw [e, List.length_append, hl]
      obtain rfl : j = x.args.length := by omega
      gi_wp2
      go_end0
      exact ⟨⟨_, rfl⟩, .inl (by rw [hlen]; exact HJj.out)⟩
   ·clear hy HR c0 c2 c3 hzX HSh HJ0 HcsB
    have hlt0 : 0 < (takes x).length := by rw [HLen.out]; omega
    have hu : ∀ b : Bool, ¬ some undef = some (Value.bool b) := fun b h => by cases h
    gi_wp2
    all_goals first
     | exact absurd ‹some undef = some (Value.bool _)› (hu _)
     | (refine ⟨(fun _ h => by cases h), ?_⟩; gi_wp2; refine bodyPost_ret (results_none rfl _ _ _) rfl ?_; exact ⟨⟨_, rfl⟩, .inr ⟨_, hlt0, hJx3⟩⟩)
  ·simp only [hA, hB] at hsp
   rw [hA, hB] at hN
   have HN := hidI (show ∃ l, takes x = l ++ x.args ∧ l.length = 2 from ⟨[(x.ar, x.an), (x.br, x.bn)], by rw [hN]; rfl, rfl⟩)
   have HSp := hidI hsp
   have HE0 : Hid (valEl x 0 = #[.agg #[.bool x.ar, .int .i64 x.an]]) := hidI (by unfold valEl; rw [hN]; rfl)
   have HE1 : Hid (valEl x 1 = #[.agg #[.bool x.br, .int .i64 x.bn]]) := hidI (by unfold valEl; rw [hN]; rfl)
   have HLen : Hid ((takes x).length = 2 + x.args.length) := hidI (by rw [hN]; simp; omega)
   have HJ0 : Hid (J 0 ((W.alloc (.cells #[.bool (shD x.op), .bool true, .bool true] 154)).alloc (.cells #[.bool (shD x.op), .bool true, .bool true] 154))) := hidI (abides_alloc HJ.out _ (abides_alloc HJ.out _ h0))
   have HSh : Hid (ValSh X q c x ((W.alloc (.cells #[.bool (shD x.op), .bool true, .bool true] 154)).alloc (.cells #[.bool (shD x.op), .bool true, .bool true] 154))) := hidI (HS.out.kc (KC.below (((Below.refl _ _).alloc (Nat.le_refl _) _).alloc (by simp) _)))
   clear hsp hN hA hB hBA h0
   have c2 := HS.out.c2
   have c3 := HS.out.c3
   have csB : ((W.alloc (.cells #[.bool (shD x.op), .bool true, .bool true] 154)).alloc (.cells #[.bool (shD x.op), .bool true, .bool true] 154)).cell? ⟨W.heap.size + 1, 2, none⟩ = some (.bool true) := (blk (heap_at (by simp))).1 2
   have HcsB := hidI csB
   clear csB
   have hy := HY.out 0 ((W.alloc (.cells #[.bool (shD x.op), .bool true, .bool true] 154)).alloc (.cells #[.bool (shD x.op), .bool true, .bool true] 154)) (by rw [HLen.out]; omega) HJ0.out
   rw [show valEl x 0 = #[.agg #[.bool x.ar, .int .i64 x.an]] from HE0.out] at hy
   obtain ⟨fn, tmps, assign, body, hy, hR⟩ := hy
   have HR := hidI hR
   clear hR
   gi_wp2_with (refine ⟨trivial, ?_⟩; gi_at_call 86; refine ((callsIn_wide (n := 1)).2 (HSp.out _)).mono ?_; rintro e w2 ⟨rfl, rfl⟩)
   refine HR.out.mono ?_
   rintro e W3 (⟨rfl, hJ3, hk3⟩ | ⟨rfl, hJx3⟩)
   ·have hcs := hk3 _ _ _ HcsB.out
    have hsz := lt_of_cell hcs
    have HSh3 := hidI (HSh.out.kc hk3)
    have c4 := HSh3.out.c4
    have c5 := HSh3.out.c5
    have hzX3 := lt_of_cell c4
    have HJ1 := hidI hJ3
    clear hJ3 hk3 c0 c2 c3 hzX HSh HJ0 HR hy
    have hy := HY.out 1 W3 (by rw [HLen.out]; omega) HJ1.out
    rw [show valEl x 1 = #[.agg #[.bool x.br, .int .i64 x.bn]] from HE1.out] at hy
    obtain ⟨fn, tmps, assign, body, hy, hR⟩ := hy
    have HR := hidI hR
    clear hR
    gi_wp2
    refine HR.out.mono ?_
    rintro e W4 (⟨rfl, hJ4, hk4⟩ | ⟨rfl, hJx4⟩)
    ·have HSh := hidI (HSh3.out.kc hk4)
     have c7 := HSh.out.c7
     have hzX4 := lt_of_cell c7
     have HJ0 : Hid (J (2 + 0) W4) := hidI hJ4
     clear hJ4 hk4 c4 c5 hzX3 HSh3 HJ1 hcs hsz HR hy
     gi_wp2
     clear c7
     gi_loopw [32] (fun i wr => ∃ j : Nat, j ≤ x.args.length ∧ i = .int .i64 j ∧ J (2 + j) wr ∧ ValSh X q c x wr) (fun i _ => x.args.length - (intOf i).toNat)
     case atStart => exact ⟨0, by omega, rfl, HJ0.out, HSh.out⟩
     case round =>
      obtain ⟨j, hj, rfl, hJj, hV⟩ := hrel
      have HV := hidI hV
      have HJj := hidI hJj
      clear hV hJj HJ0 HSh
      by_cases hjl : j < x.args.length
      ·obtain ⟨b, o, hq, a0, a1⟩ := HV.out.arg j hjl
       subst hq
       have hlen : (takes x).length = 2 + x.args.length := by
        obtain ⟨l, e, hl⟩ := HN.out
        rw [e, List.length_append, hl]
       have he := takes_arg hlen HN.out hjl
       have hy := HY.out (2 + j) (wr.alloc (.cells #[.bool x.args[j].1, .int .i64 x.args[j].2] 45)) (by omega) (abides_alloc HJ.out _ HJj.out)
       rw [he] at hy
       obtain ⟨fn, tmps, assign, body, hy, hR⟩ := hy
       have HR := hidI hR
       have hjb := lt_of_cell a0
       have hlt : 2 + j < (takes x).length := by omega
       clear hR he hlen
       generalize x.args[j] = av at *
       gi_wp2
       refine HR.out.mono ?_
       rintro e W3 (⟨rfl, hJ3, hk3⟩ | ⟨rfl, hJx3⟩)
       ·have HK3 := hidI (HV.out.kc ((KC.below ((Below.refl _ _).alloc (Nat.le_refl _) _)).trans hk3))
        clear hk3
        gi_wp2
        go_roundw
        case rel => exact ⟨j + 1, by omega, by go_num, hJ3, HK3.out⟩
        case measure => simp [intOf]; omega
       ·gi_wp2
        refine bodyPost_ret (results_none rfl _ _ _) rfl ?_
        exact ⟨⟨_, rfl⟩, .inr ⟨_, hlt, hJx3⟩⟩
      ·have hlen : (takes x).length = 2 + x.args.length := by
        obtain ⟨l, e, hl⟩ := HN.out
        rw [e, List.length_append, hl]
       obtain rfl : j = x.args.length := by omega
       gi_wp2
       go_end0
       exact ⟨⟨_, rfl⟩, .inl (by rw [hlen]; exact HJj.out)⟩
    ·gi_wp2
     refine bodyPost_ret (results_none rfl _ _ _) rfl ?_
     exact ⟨⟨_, rfl⟩, .inr ⟨_, by rw [HLen.out]; omega, hJx4⟩⟩
   ·clear hy HR c0 c2 c3 hzX HSh HJ0 HcsB
    have hlt0 : 0 < (takes x).length := by rw [HLen.out]; omega
    have hu : ∀ b : Bool, ¬ some undef = some (Value.bool b) := fun b h => by cases h
    gi_wp2
    all_goals first
     | exact absurd ‹some undef = some (Value.bool _)› (hu _)
     | (refine ⟨(fun _ h => by cases h), ?_⟩; gi_wp2; refine bodyPost_ret (results_none rfl _ _ _) rfl ?_; exact ⟨⟨_, rfl⟩, .inr ⟨_, hlt0, hJx3⟩⟩)
end Go.Proofs.YtdjamkinijhjoaaDoor
namespace Go.Proofs.YtdjamkinijhjoaaDoor
open Go.RowKit

set_option maxRecDepth 100000 in
set_option maxHeartbeats 1000000 in
theorem graphAhead_any (nm : ByteArray) (params regs : Int) (bb bo bc n : Nat) (TS : List (List Int)) (w : World) (hn : n ≤ 40)
  (hB : ∀ i, i < n → BlkAt w bb bo i (TS.getD i []))
  (hE : ∀ i, i < n → (TS.getD i []).length ≤ 2 ∧ ∀ t ∈ TS.getD i [], 1 ≤ t ∧ t < n) :
  Calls Tryd.prog 102 #[.agg #[.string nm, .int .i64 params, .int .i64 regs, .slice (some ⟨bb, bo, none⟩) n bc]] w fun e w' =>
   (∃ f : Nat → Value, e = .returned (.slice (some ⟨w.heap.size + 1, 0, none⟩) n n) ∧ Rows2 w' (w.heap.size + 1 + 1) (w.heap.size + 1) n 46 3 (waysOf TS n) f) ∧ Below w.heap.size w w' := by
 obtain ⟨i1, k1, k2, k3, k4⟩ := info_parts infoInt
 obtain ⟨i2, l1, l2, l3, l4⟩ := info_parts infoInts
 have hmk := run_make_row 94 46 i2 (.slice none 0 0) underRows l1 l2 l3 rfl .i64 .i64 n (by rw [l4]; omega) (by omega)
 have HB : Hid (∀ i, i < n → BlkAt w bb bo i (TS.getD i [])) := hB
 have HE : Hid (∀ i, i < n → (TS.getD i []).length ≤ 2 ∧ ∀ t ∈ TS.getD i [], 1 ≤ t ∧ t < n) := hE
 clear hB hE
 go_enter Tryd.func102, Tryd.ntmps102
 go_wp2
 go_loopw [15] (fun i wr => ∃ k : Nat, k ≤ n ∧ i = .int .i64 k ∧ (∃ f, Rows2 wr (w.heap.size + 1 + 1) (w.heap.size + 1) n 46 3 (waysOf TS k) f) ∧ Below w.heap.size w wr) (fun i _ => n - (intOf i).toNat)
 case atStart => exact ⟨0, by omega, rfl, ⟨_, by have := Rows2.made (w.alloc (.cells #[.string nm, .int .i64 params, .int .i64 regs, .slice (some ⟨bb, bo, none⟩) n bc] 37)) n 46 3; simpa [waysOf] using this⟩, by repeat (first | (with_reducible first | exact bR _ _ | exact bH ‹_› | refine bD ?_ | refine bN ?_ _ | refine bS ?_ ?_ _ | refine bA ?_ ?_ _ | refine bT hb3 ?_ ?_ | refine bT hb5 ?_ ?_ | refine bT hb4 ?_ ?_) | omega | (simp; omega) | simp)⟩
 case round =>
  obtain ⟨k, hk, rfl, ⟨f, hR⟩, hb⟩ := hrel
  have HBw : Hid (Below w.heap.size w wr) := hb
  have HR : Hid (Rows2 wr (w.heap.size + 1 + 1) (w.heap.size + 1) n 46 3 (waysOf TS k) f) := hR
  have hsz : w.heap.size + 1 < wr.heap.size := hR.tab.lt
  clear hb hR
  by_cases hlt : k < n
  ·obtain ⟨p1, m1, c1, p2, m2, c2, kk, r, m, p, c, e0, e1, e2, e3, e4, e5, hto⟩ := HB.out k hlt
   have hbb := lt_of_cell e0
   rw [← HBw.out.cell (p := ⟨bb, bo + k * 6, none⟩) hbb] at e0
   rw [← HBw.out.cell (p := ⟨bb, bo + k * 6 + 1, none⟩) hbb] at e1
   rw [← HBw.out.cell (p := ⟨bb, bo + k * 6 + 2, none⟩) hbb] at e2
   rw [← HBw.out.cell (p := ⟨bb, bo + k * 6 + 3, none⟩) hbb] at e3
   rw [← HBw.out.cell (p := ⟨bb, bo + k * 6 + 4, none⟩) hbb] at e4
   rw [← HBw.out.cell (p := ⟨bb, bo + k * 6 + 5, none⟩) hbb] at e5
   obtain ⟨hl2, hts⟩ := HE.out k hlt
   have HTO : Hid (SliceAt w 1 IntR p (TS.getD k [])) := hto
   have HTS : Hid (∀ t ∈ TS.getD k [], 1 ≤ t ∧ t < n) := hts
   clear hto hts
   generalize hto : TS.getD k [] = to at *
   have HK : Hid (TS.getD k [] = to) := hto
   clear hto
   go_wp2
   go_loopw [24] (fun i wq => ∃ j : Nat, j ≤ to.length ∧ i = .int .i64 j ∧ (∃ f, Rows2 wq (w.heap.size + 1 + 1) (w.heap.size + 1) n 46 3 (waysOf TS k ++ (to.map fun t => (t.toNat, k)).take j) f) ∧ Below w.heap.size w wq) (fun i _ => to.length - (intOf i).toNat)
   case atStart => exact ⟨0, by omega, rfl, ⟨f, by simpa using HR.out.alloc _⟩, by have := HBw.out; exact this.alloc (by omega) _⟩
   case round =>
    clear HR HBw e0 e1 e2 e3 e4 e5
    obtain ⟨j, hj, rfl, ⟨f, hR⟩, hb⟩ := hrel
    have HBw : Hid (Below w.heap.size w wr) := hb
    have HR : Hid (Rows2 wr (w.heap.size + 1 + 1) (w.heap.size + 1) n 46 3 (waysOf TS k ++ (to.map fun t => (t.toNat, k)).take j) f) := hR
    have hsz : w.heap.size + 1 < wr.heap.size := hR.tab.lt
    clear hb hR
    by_cases hjl : j < to.length
    ·obtain ⟨t, ht⟩ : ∃ t : Nat, to[j] = (t : Int) := ⟨to[j].toNat, by have := (HTS.out _ (List.getElem_mem hjl)).1; omega⟩
     have htn : t < n := by have := (HTS.out _ (List.getElem_mem hjl)).2; omega
     obtain ⟨tb, tof, hp, htc⟩ : ∃ tb tof, p = some ⟨tb, tof, none⟩ ∧ wr.cell? ⟨tb, tof + j, none⟩ = some (.int .i64 t) := by
      rcases HTO.out with h0 | ⟨tb, tof, hp, hc⟩
      ·rw [h0] at hjl; simp at hjl
      ·refine ⟨tb, tof, hp, ?_⟩
       obtain ⟨cs, _, hc, ⟨rfl, _⟩⟩ := hc j hjl
       have h2 := hc 0 (by omega)
       simp only [Nat.mul_one, Nat.add_zero, List.getElem?_cons_zero] at h2
       rw [HBw.out.cell (p := ⟨tb, tof + j, none⟩) (lt_of_cell h2), h2, ht]
     subst hp
     have hrow := HR.out.row t htn
     obtain ⟨q, qc, hq⟩ : ∃ q qc, f t = .slice q (rowOf (waysOf TS k ++ (to.map fun t => (t.toNat, k)).take j) t).length qc := by
      rcases hrow.2 with ⟨h1, h2⟩ | ⟨g, cap, cur, h1, _⟩
      ·refine ⟨none, 0, ?_⟩
       rw [h1, h2]
      ·exact ⟨_, _, h1⟩
     have HQ : Hid (f t = .slice q (rowOf (waysOf TS k ++ (to.map fun t => (t.toNat, k)).take j) t).length qc) := hq
     have hfc := HR.out.tab.cell htn
     have hff := HR.out.tab.frozen t
     rw [hq] at hfc hrow
     clear hq
     have HT : Hid (to[j]? = some (t : Int)) := by show _ = _; rw [List.getElem?_eq_getElem hjl, ht]
     clear ht
     have hm2 : (rowOf (waysOf TS k ++ (to.map fun t => (t.toNat, k)).take j) t).length ≤ 2 * k + 2 := by
      have h1 := rowOf_le (waysOf TS k ++ (to.map fun t => (t.toNat, k)).take j) t
      have h2 := waysOf_le TS k n hk (fun i hi => (HE.out i hi).1)
      rw [List.length_append, List.length_take, List.length_map] at h1
      omega
     generalize hm : (rowOf (waysOf TS k ++ (to.map fun t => (t.toNat, k)).take j) t).length = m at *
     have HM : Hid ((rowOf (waysOf TS k ++ (to.map fun t => (t.toNat, k)).take j) t).length = m) := hm
     clear hm
     go_wp2_with (at_builtin; refine wpList_append_own_at _ rfl _ _ 46 rfl (w.heap.size + 1 + 1) 3 i1 (.int .i64 0) 1 8 underInts k1 k2 k3 k4 rfl (by decide) _ _ _ rfl (hrow.alloc _) ⟨wr.heap.size, 0, none⟩ 1 1 [.int .i64 k] rfl rfl (cell_one_new _ _ _) (by simp [Value.oneCell']) ?_ ?_ ?_ ?_)
     ·unfold maxLen; omega
     ·omega
     ·simp; omega
     intro v' w1 hown' hgrow _ hat
     have HP := (HR.out.alloc (.cells #[.int .i64 k] 3)).put (i := k) (by simp; omega) htn (v' := v') (w' := w1) (by rw [HM.out]; exact hown') (by rw [HQ.out]; exact hgrow) (by rw [HQ.out]; simpa using hat)
     obtain ⟨q2, c2', hv2⟩ : ∃ q2 c2, v' = .slice q2 (m + 1) c2 := by
      rcases hown'.2 with ⟨h1, h2⟩ | ⟨g, cap, cur, h1, _⟩
      ·omega
      ·exact ⟨_, _, h1⟩
     subst hv2
     obtain ⟨hc1, hf1⟩ := (HR.out.alloc (.cells #[.int .i64 k] 3)).atTab htn (w' := w1) (by rw [HQ.out]; exact hgrow)
     rw [HQ.out] at hc1
     have hbw := (HBw.out.alloc (by omega) (.cells #[.int .i64 k] 3)).grown hgrow (by simp; omega) (fun kk e => by have := (hrow.lt kk e).1; omega)
     have HB2 := hidI hbw
     have HP2 := hidI HP
     clear HP hown' hgrow hat hfc hff htc hrow hbw
     go_wp2
     refine ⟨⟨j + 1, by omega, by go_num, ⟨fun i => if i = t then Value.slice q2 (m + 1) c2' else f i, ?_⟩, ?_⟩, by simp [intOf]; omega⟩
     ·rw [List.take_add_one, List.getElem?_map, HT.out]
      have HP3 := HP2.out
      rw [List.append_assoc] at HP3
      exact HP3
     ·exact HB2.out.setCell (by show _ ≤ w.heap.size + 1; omega) _
    ·go_wp2
     obtain rfl : j = to.length := by omega
     refine ⟨⟨k + 1, by omega, by go_num, ⟨f, ?_⟩, HBw.out⟩, by simp [intOf]; omega⟩
     have HR2 := HR.out
     rw [List.take_of_length_le (by simp)] at HR2
     unfold waysOf
     rw [HK.out]
     exact HR2
  ·go_wp2
   go_ret
   obtain rfl : k = n := by omega
   exact ⟨⟨f, rfl, HR.out⟩, HBw.out⟩
end Go.Proofs.YtdjamkinijhjoaaDoor
