/-
  The contract of calls.graph.
-/
import Derived.Test.YtdjamkinijhjoaaDoorBCalG
import Derived.Test.YtdjamkinijhjoaaDoorBCalK
import Derived.RangeFuncFrom
import Derived.WalkKit
import Derived.WalkSpells
import Derived.WalkLawsBesides
namespace Go.Proofs.YtdjamkinijhjoaaDoor
open Go.RowKit Go.Shelf
attribute [local go_sem] Oper.semAt_some

/-- whom a function calls, in the order of the text -/
def calleesL (l : List InsL) : List Int := (l.filter fun i => i.op == 20).map (·.fn)

/-- sorted, each once -/
def rowS (l : List Int) : List Int := Go.Lib.compact (sortL l)
def rowsTo (xs : List FunL) (k j : Nat) : List Int := if j < k then (match xs[j]? with | some f => rowS (calleesL (allIns f)) | none => []) else []

/-- the call graph: for each function whom it calls -/
def graphL (xs : List FunL) : List (List Int) := xs.map fun f => rowS (calleesL (allIns f))
theorem rowS_mem {l : List Int} {x : Int} (h : x ∈ rowS l) : x ∈ l := by
  unfold rowS Go.Lib.compact Go.Lib.compactUpTo at h
  obtain ⟨i, hi, rfl⟩ := List.mem_map.1 h
  have hi2 := List.mem_range.1 (List.mem_filter.1 hi).1
  have : (sortL l).toArray[i]! = (sortL l)[i] := by simp [hi2]
  rw [this]
  have hm := List.getElem_mem hi2
  unfold sortL at hm ⊢
  exact List.mem_mergeSort.1 hm
theorem rowS_len (l : List Int) : (rowS l).length ≤ l.length := by
  unfold rowS Go.Lib.compact Go.Lib.compactUpTo
  rw [List.length_map]
  exact Nat.le_trans (List.length_filter_le _ _) (by rw [List.length_range, sortL_len]; exact Nat.le_refl _)
theorem rowsTo_all (xs : List FunL) : (List.range xs.length).map (rowsTo xs xs.length) = graphL xs := by
  unfold graphL
  apply List.ext_getElem (by simp)
  intro i h1 h2
  have hi : i < xs.length := by simpa using h1
  simp [rowsTo, hi]
theorem infoInt3 : (Tryd.prog.info? 3).map (fun i => (i.zero, i.size, i.bytes)) = some (some (.int .i64 0), 1, 8) := by kernel_rfl
theorem infoInts3 : (Tryd.prog.info? 46).map (fun i => (i.zero, i.size, i.bytes)) = some (some (.slice none 0 0), 1, 24) := by kernel_rfl
theorem underInts3 : Tryd.prog.underlying 46 = some (.slice 3) := by kernel_rfl
theorem underRows3 : Tryd.prog.underlying 94 = some (.slice 46) := by kernel_rfl

theorem graph_below {w W : World} {A B C : Obj} (h : (((w.alloc A).alloc B).alloc C).grownBy W (some (w.heap.size + 1))) : Below w.heap.size w W :=
  ((((Below.refl _ _).alloc (Nat.le_refl _) A).alloc (by simp) B).alloc (by simp; omega) C).grown h (by simp; omega) (fun k e => by cases e; omega)
/-- between two rounds: row k of the table grows in memory made since W0 -/
def GraphI (W0 : World) (T n k : Nat) (ts ti : TypeId) (f : Nat → Value) {wa : World} (pre : List (InsPos wa)) (W : World) : Prop :=
  ∃ v, W.rowIs T ts n (fun j => if j = k then v else f j) ∧ W.ownsRow W0.heap.size ti 1 v (calleesL (posIns pre)).length ((calleesL (posIns pre)).map (.int .i64)) ∧ W0.grownBy W (some T)
theorem graphI_own {W0 : World} {T n k : Nat} {ts ti : TypeId} {f : Nat → Value} {wa : World} (hT : T < W0.heap.size) : OwnFrom (β := List (InsPos wa)) W0.heap.size (GraphI W0 T n k ts ti f) := by
  rintro s W W' row ⟨v, h1, h2, h3⟩ hg hr
  refine ⟨v, h1.of_block (hg.block T h1.lt (fun e => by have := (hr T e.symm).1; omega)), h2.kept hg ?_, ?_⟩
  · rcases h2.2 with ⟨hv, _⟩ | ⟨g, cap, cur, hv, _, hh, _⟩
    · rw [hv]; exact .inl rfl
    · right
      rw [hv]
      intro e
      obtain ⟨o, ho, hc⟩ := (hr g e.symm).2
      rw [hh] at ho
      cases ho
      cases hc
  · refine ⟨hg.os.trans h3.os, hg.tape.trans h3.tape, hg.output.trans h3.output, Nat.le_trans h3.size hg.size, fun i hi hne => ?_⟩
    exact (hg.block i (Nat.lt_of_lt_of_le hi h3.size) (fun e => by have := (hr i e.symm).1; omega)).trans (h3.block i hi hne)

set_option maxRecDepth 100000 in
set_option maxHeartbeats 2000000 in
theorem graph_any (xs : List FunL) (gp fp : Option Addr) (gl gc fc : Nat) (w : World) (hl : xs.length ≤ 10) (hm : ∀ k (h : k < xs.length), (allIns xs[k]).length ≤ 300) (hI : ∀ k (h : k < xs.length), ∀ x ∈ calleesL (allIns xs[k]), I64 x) (hF : SliceAt w 4 (FunR w) fp xs) :
    Calls Tryd.prog 77 #[.agg #[.slice gp gl gc, .slice fp xs.length fc]] w fun e w' => ∃ T, e = .returned (.slice (some ⟨T, 0, none⟩) xs.length xs.length) ∧ SliceAt w' 1 (IntsR w') (some ⟨T, 0, none⟩) (graphL xs) ∧ Below w.heap.size w w' := by
  obtain ⟨i1, k1, k2, k3, k4⟩ := info_parts infoInt3
  obtain ⟨i2, l1, l2, l3, l4⟩ := info_parts infoInts3
  have hmk := run_make_row 94 46 i2 (.slice none 0 0) underRows3 l1 l2 l3 rfl .i64 .i64 xs.length (by rw [l4]; omega) (by omega)
  have HF := hidI hF
  clear hF
  refine (callsIn_wide (n := 3)).1 ?_
  refine callsIn_of_wp_marks Tryd.func77 rfl trivial ?_ rfl
  simp only [Tryd.ntmps77, List.size_toArray, List.length_cons, List.length_nil, Nat.reduceAdd, Nat.reduceSub, Array.replicate_succ, Array.replicate_zero, List.push_toArray, List.append_toArray, List.nil_append, List.cons_append]
  gi_wp2
  refine wpIn_loop (fun a' w' => ∃ (u4 u5 u14 u15 u16 u17 u18 u19 u20 u21 u22 u23 u24 u25 u26 u27 u28 u29 u30 u31 u32 u33 u34 u35 u36 u37 u38 u39 u40 u41 u42 u43 u44 u45 u46 u47 u48 u49 u50 u51 u52 u53 : Value) (k : Nat) (Ds : List Nat) (f : Nat → Value), (k ≤ xs.length ∧ RowsT w' (w.heap.size + 1 + 1 + 1) (w.heap.size + 1) xs.length 46 3 f (rowsTo xs k) ∧ (((w.alloc (.cells #[.slice gp gl gc, .slice fp xs.length fc] 25)).alloc (.cells (madeCells #[.slice none 0 0] xs.length) 46)).alloc (.cells #[.slice (some ⟨w.heap.size + 1, 0, none⟩) xs.length xs.length] 94)).grownBy w' (some (w.heap.size + 1)) ∧ Ds.Nodup ∧ (∀ j, k ≤ j → f j = .slice none 0 0) ∧ ∀ D ∈ Ds, w.heap.size + 1 + 1 + 1 ≤ D ∧ w'.heap[D]? = some (.deferred (some []))) ∧ a' = { tmps := #[.agg #[.slice gp gl gc, .slice fp xs.length fc], .pointer (some ⟨w.heap.size, 0, none⟩), .slice none 0 0, .pointer (some ⟨w.heap.size + 1 + 1, 0, none⟩), u4, u5, .pointer (some ⟨w.heap.size, 1, none⟩), .slice fp xs.length fc, .int .i64 xs.length, .slice (some ⟨w.heap.size + 1, 0, none⟩) xs.length xs.length, .pointer (some ⟨w.heap.size, 1, none⟩), .slice fp xs.length fc, .int .i64 xs.length, .int .i64 k, u14, u15, u16, u17, u18, u19, u20, u21, u22, u23, u24, u25, u26, u27, u28, u29, u30, u31, u32, u33, u34, u35, u36, u37, u38, u39, u40, u41, u42, u43, u44, u45, u46, u47, u48, u49, u50, u51, u52, u53, undef], defers := marks Ds }) (fun a' _ => xs.length - (intOf (a'.tmps.getD 13 undef)).toNat) ?start ?round
  case start =>
    refine ⟨_, _, _, _, _, _, _, _, _, _, _, _, _, _, _, _, _, _, _, _, _, _, _, _, _, _, _, _, _, _, _, _, _, _, _, _, _, _, _, _, _, _, 0, [], fun _ => .slice none 0 0, ⟨Nat.zero_le _, ?_, ⟨rfl, rfl, rfl, Nat.le_refl _, fun _ _ _ => rfl⟩, List.nodup_nil, fun _ _ => rfl, fun D h => by cases h⟩, rfl⟩
    have hM := RowsT.made (w.alloc (.cells #[.slice gp gl gc, .slice fp xs.length fc] 25)) xs.length (w.heap.size + 1 + 1 + 1) 46 3 (by simp)
    have e : (w.alloc (.cells #[.slice gp gl gc, .slice fp xs.length fc] 25)).heap.size = w.heap.size + 1 := by simp
    rw [e] at hM
    exact (hM.below ((Below.refl _ _).alloc (Nat.le_refl _) _)).congr fun j _ => by simp [rowsTo]
  case round =>
    rintro _ wr ⟨u4, u5, u14, u15, u16, u17, u18, u19, u20, u21, u22, u23, u24, u25, u26, u27, u28, u29, u30, u31, u32, u33, u34, u35, u36, u37, u38, u39, u40, u41, u42, u43, u44, u45, u46, u47, u48, u49, u50, u51, u52, u53, k, Ds, f, ⟨hk, hR, hG, hN, hNil, hD⟩, rfl⟩
    have HR := hidI hR
    have HG := hidI hG
    have HN := hidI hN
    have HD := hidI hD
    have HNil := hidI hNil
    have hz : w.heap.size + 1 + 1 < wr.heap.size := by have := hG.size; simp at this; omega
    have hz0 : w.heap.size < wr.heap.size := by omega
    obtain ⟨hc0, hf0⟩ := blk (T := 25) (A := #[.slice gp gl gc, .slice fp xs.length fc]) ((hG.block w.heap.size (by simp; omega) (by simp)).trans (heap_step (heap_step (heap_here w _))))
    clear hR hG hN hD hNil
    by_cases hlt : k < xs.length
    · obtain ⟨b2, o2, q, c, hp, e0, e1, e2, e3, _, _, _, hbl, hbs⟩ := funGet HF.out (Below.refl _ _) hlt
      subst hp
      have hbb := lt_of_cell e0
      have HBS := hidI hbs
      have E3 := hidI e3
      clear hbs e0 e1 e2 e3
      gi_wp2_with (refine ⟨trivial, ?_⟩; gi_at_call 31; refine ((callsIn_wide (n := 2)).2 (each_any _ _)).mono ?_; rintro e w2 ⟨rfl, rfl⟩)
      gi_wp2
      obtain ⟨W0, hW0⟩ : ∃ W0, (wr.alloc (.cells #[.int .i64 k] 3)).alloc (.cells #[.pointer (some ⟨b2, o2 + k * 4, none⟩)] 86) = W0 := ⟨_, rfl⟩
      rw [hW0]
      have hBW : Below wr.heap.size wr W0 := by rw [← hW0]; exact ((Below.refl _ _).alloc (Nat.le_refl _) _).alloc (by simp) _
      have hsz : W0.heap.size = wr.heap.size + 1 + 1 := by rw [← hW0]; simp
      have hKb : W0.heap[wr.heap.size]? = some (.cells #[.int .i64 k] 3) := by rw [← hW0]; exact heap_step (heap_here _ _)
      have hBb : W0.heap[wr.heap.size + 1]? = some (.cells #[.pointer (some ⟨b2, o2 + k * 4, none⟩)] 86) := by rw [← hW0]; exact heap_at (by simp)
      have hOb : W0.heap[w.heap.size + 1 + 1]? = some (.cells #[.slice (some ⟨w.heap.size + 1, 0, none⟩) xs.length xs.length] 94) := (hBW.block _ hz).trans ((HG.out.block (w.heap.size + 1 + 1) (by simp) (by simp)).trans (heap_at (by simp)))
      have hUb : W0.heap[w.heap.size]? = some (.cells #[.slice gp gl gc, .slice (some ⟨b2, o2, none⟩) xs.length fc] 25) := (hBW.block _ hz0).trans ((HG.out.block w.heap.size (by simp; omega) (by simp)).trans (heap_step (heap_step (heap_here w _))))
      have hWa : Below w.heap.size w W0 := (graph_below HG.out).trans (hBW.mono (by omega))
      have hR0 := HR.out.below hBW
      have HKb := hidI hKb
      have HBb := hidI hBb
      have HOb := hidI hOb
      have HUb := hidI hUb
      have HWa := hidI hWa
      have HR0 := hidI hR0
      have HBW := hidI hBW
      clear hKb hBb hOb hUb hWa hR0 hBW hW0 hc0 hf0
      refine wpIn_rangeFunc_ownF rfl (by omega) (gf := 67) (lb := #[.pointer (some ⟨wr.heap.size + 1, 0, none⟩)]) rfl trivial (enters_of Tryd.func67 (by kernel_rfl) rfl)
        (each_stops Fence.wide 2 trivial rfl (by omega) (wr.heap.size + 1) b2 (o2 + k * 4) c q xs[k] w W0 HWa.out E3.out hbl HBS.out (by omega) (by omega) ((blk HBb.out).1 0)) eachK_t (eachK_b (by omega) (by omega)) (Below.refl _ _) (fun _ => rfl)
        (GraphI W0 (w.heap.size + 1) xs.length k 46 3 f) (fun _ _ _ => False) (graphI_own (by omega)) (fun _ _ _ _ _ hs _ _ => hs)
        ?start (fun y => { tmps := #[.agg #[.slice gp gl gc, .slice (some ⟨b2, o2, none⟩) xs.length fc], .pointer (some ⟨w.heap.size, 0, none⟩), .slice none 0 0, .pointer (some ⟨w.heap.size + 1 + 1, 0, none⟩), .pointer (some ⟨wr.heap.size, 0, none⟩), .pointer (some ⟨y.1.1.1, y.1.1.2, none⟩), .pointer (some ⟨w.heap.size, 1, none⟩), .slice (some ⟨b2, o2, none⟩) xs.length fc, .int .i64 xs.length, .slice (some ⟨w.heap.size + 1, 0, none⟩) xs.length xs.length, .pointer (some ⟨w.heap.size, 1, none⟩), .slice (some ⟨b2, o2, none⟩) xs.length fc, .int .i64 xs.length, .int .i64 k, .bool true, .int .i64 k, .pointer (some ⟨w.heap.size, 1, none⟩), .slice (some ⟨b2, o2, none⟩) xs.length fc, .int .i64 k, .pointer (some ⟨b2, o2 + k * 4, none⟩), .func (.func 67) #[] #[.pointer (some ⟨wr.heap.size + 1, 0, none⟩)], .pointer (some ⟨y.1.1.1, y.1.1.2, none⟩), u22, u23, u24, u25, u26, u27, u28, u29, u30, u31, u32, u33, u34, u35, u36, u37, u38, u39, u40, u41, u42, u43, u44, u45, u46, u47, u48, u49, u50, u51, u52, u53, undef], defers := [] }) ?assign ?body ?done ?stop
      case start =>
        refine ⟨.slice none 0 0, HR0.out.tab.congr fun j _ => ?_, World.ownsRow_nil _ _ _ _, ⟨rfl, rfl, rfl, Nat.le_refl _, fun _ _ _ => rfl⟩⟩
        by_cases hj : j = k
        · rw [if_pos hj, hj]; exact HNil.out k (Nat.le_refl _)
        · rw [if_neg hj]
      case assign =>
        intro l y W K hK
        unfold posEnc
        gi_wp2
        exact hK
      case body =>
        rintro l pre y W ⟨v, hT, hv, hg⟩ hlen
        obtain ⟨q4, c4, g0, g1, g2, g3, g4, g5, g6, g7, i1', i2', i3', i4', i5', _⟩ := y.2
        have hlb := lt_of_cell g0
        have hWW : Below w.heap.size w W := HWa.out.grown hg (by omega) (fun kk e => by cases e; omega)
        have y0 := (hWW.cell (p := ⟨y.1.1.1, y.1.1.2, none⟩) hlb).trans g0
        have y6 := (hWW.cell (p := ⟨y.1.1.1, y.1.1.2 + 6, none⟩) hlb).trans g6
        obtain ⟨m, d, hvv⟩ := own_slice hv
        subst hvv
        have HT := hidI hT
        have HV := hidI hv
        have HGr := hidI hg
        have ck := (blk ((hg.block wr.heap.size (by omega) (by simp; omega)).trans HKb.out)).1
        have co := (blk ((hg.block (w.heap.size + 1 + 1) (by omega) (by simp)).trans HOb.out)).1
        have hWs : W0.heap.size ≤ W.heap.size := hg.size
        clear g0 g1 g2 g3 g4 g5 g6 g7 hT hv hg hWW
        cases hop : (y.1.2.op == 20)
        · have HOp : Hid (calleesL (posIns (pre ++ [y])) = calleesL (posIns pre)) := by
            show _ = _
            rw [posIns_snoc]
            simp [calleesL, List.filter_append, hop]
          gi_wp2
          refine ⟨KeepsOthers.refl _, ⟨Below.refl _ _, rfl⟩, ?_⟩
          show GraphI _ _ _ _ _ _ _ _ _
          unfold GraphI
          rw [HOp.out]
          exact ⟨_, HT.out, HV.out, HGr.out⟩
        · have HOp : Hid (calleesL (posIns (pre ++ [y])) = calleesL (posIns pre) ++ [y.1.2.fn]) := by
            show _ = _
            rw [posIns_snoc]
            simp [calleesL, List.filter_append, hop]
          gi_wp2
          have hcT := HT.out.cell hlt
          rw [if_pos rfl] at hcT
          refine wpIn_region_round (S := (fun W' : World => W'.cell? ⟨w.heap.size + 1 + 1, 0, none⟩ = some (.slice (some ⟨w.heap.size + 1, 0, none⟩) xs.length xs.length) ∧ W'.cell? ⟨wr.heap.size, 0, none⟩ = some (.int .i64 k) ∧ W'.cell? ⟨w.heap.size + 1, k, none⟩ = some (.slice m (calleesL (posIns pre)).length d) ∧ W'.cell? ⟨y.1.1.1, y.1.1.2 + 6, none⟩ = some (.int .i64 y.1.2.fn))) (by kernel_rfl) (fun ⟨_, _, h⟩ => h) (by kernel_rfl) 13 ?_
          have hS : (fun W' : World => W'.cell? ⟨w.heap.size + 1 + 1, 0, none⟩ = some (.slice (some ⟨w.heap.size + 1, 0, none⟩) xs.length xs.length) ∧ W'.cell? ⟨wr.heap.size, 0, none⟩ = some (.int .i64 k) ∧ W'.cell? ⟨w.heap.size + 1, k, none⟩ = some (.slice m (calleesL (posIns pre)).length d) ∧ W'.cell? ⟨y.1.1.1, y.1.1.2 + 6, none⟩ = some (.int .i64 y.1.2.fn)) W.drew := ⟨co 0, ck 0, hcT, y6⟩
          refine wpAnyZ_take (i := 0) (v := (.slice (some ⟨w.heap.size + 1, 0, none⟩) xs.length xs.length)) rfl (by kernel_rfl) (by kernel_rfl) (by kernel_rfl) (by kernel_rfl) (fun _ _ _ h => h) (.inl ⟨rfl, fun W' hS' => (by obtain ⟨h1, h2, h3, h4⟩ := hS'; go_simp)⟩) hS ?_
          refine wpAnyZ_take (i := 1) (v := (.int .i64 k)) rfl (by kernel_rfl) (by kernel_rfl) (by kernel_rfl) (by kernel_rfl) (fun _ _ _ h => h) (.inl ⟨rfl, fun W' hS' => (by obtain ⟨h1, h2, h3, h4⟩ := hS'; go_simp)⟩) hS ?_
          refine wpAnyZ_take (i := 2) (v := (.slice (some ⟨w.heap.size + 1, 0, none⟩) xs.length xs.length)) rfl (by kernel_rfl) (by kernel_rfl) (by kernel_rfl) (by kernel_rfl) (fun _ _ _ h => h) (.inl ⟨rfl, fun W' hS' => (by obtain ⟨h1, h2, h3, h4⟩ := hS'; go_simp)⟩) hS ?_
          refine wpAnyZ_take (i := 3) (v := (.int .i64 k)) rfl (by kernel_rfl) (by kernel_rfl) (by kernel_rfl) (by kernel_rfl) (fun _ _ _ h => h) (.inl ⟨rfl, fun W' hS' => (by obtain ⟨h1, h2, h3, h4⟩ := hS'; go_simp)⟩) hS ?_
          refine wpAnyZ_take (i := 4) (v := (.pointer (some ⟨w.heap.size + 1, k, none⟩))) rfl (by kernel_rfl) (by kernel_rfl) (by kernel_rfl) (by kernel_rfl) (fun _ _ _ h => h) (.inl ⟨rfl, fun W' hS' => (by obtain ⟨h1, h2, h3, h4⟩ := hS'; go_simp)⟩) hS ?_
          refine wpAnyZ_take (i := 5) (v := (.slice m (calleesL (posIns pre)).length d)) rfl (by kernel_rfl) (by kernel_rfl) (by kernel_rfl) (by kernel_rfl) (fun _ _ _ h => h) (.inl ⟨rfl, fun W' hS' => (by obtain ⟨h1, h2, h3, h4⟩ := hS'; go_simp)⟩) hS ?_
          refine wpAnyZ_take (i := 6) (v := (.pointer (some ⟨y.1.1.1, y.1.1.2, none⟩))) rfl (by kernel_rfl) (by kernel_rfl) (by kernel_rfl) (by kernel_rfl) (fun _ _ _ h => h) (.inl ⟨rfl, fun W' hS' => (by obtain ⟨h1, h2, h3, h4⟩ := hS'; go_simp)⟩) hS ?_
          refine wpAnyZ_take (i := 7) (v := (.pointer (some ⟨y.1.1.1, y.1.1.2, none⟩))) rfl (by kernel_rfl) (by kernel_rfl) (by kernel_rfl) (by kernel_rfl) (fun _ _ _ h => h) (.inl ⟨rfl, fun W' hS' => (by obtain ⟨h1, h2, h3, h4⟩ := hS'; go_simp)⟩) hS ?_
          refine wpAnyZ_take (i := 8) (v := (.pointer (some ⟨y.1.1.1, y.1.1.2 + 6, none⟩))) rfl (by kernel_rfl) (by kernel_rfl) (by kernel_rfl) (by kernel_rfl) (fun _ _ _ h => h) (.inl ⟨rfl, fun W' hS' => (by obtain ⟨h1, h2, h3, h4⟩ := hS'; go_simp)⟩) hS ?_
          refine wpAnyZ_take (i := 9) (v := (.int .i64 y.1.2.fn)) rfl (by kernel_rfl) (by kernel_rfl) (by kernel_rfl) (by kernel_rfl) (fun _ _ _ h => h) (.inl ⟨rfl, fun W' hS' => (by obtain ⟨h1, h2, h3, h4⟩ := hS'; go_simp)⟩) hS ?_
          refine wpAnyZ_one (i := 10) (by kernel_rfl) rfl rfl (wp_of_run (v := .slice (some ⟨W.heap.size, 0, none⟩) 1 1) (w' := (W.drew.alloc (.cells #[.int .i64 y.1.2.fn] 3))) (by go_simp) ?_)
          obtain ⟨W1, hW1⟩ : ∃ W1, (W.drew.alloc (.cells #[.int .i64 y.1.2.fn] 3)) = W1 := ⟨_, rfl⟩
          rw [hW1]
          have hB1 : Below W.heap.size W W1 := by rw [← hW1]; exact (Below.refl _ W).drew.alloc (Nat.le_refl _) _
          have hs1 : W1.heap.size = W.heap.size + 1 := by rw [← hW1]; simp
          have hn1 : W1.cell? ⟨W.heap.size, 0, none⟩ = some (.int .i64 y.1.2.fn) := by rw [← hW1]; exact (blk (heap_at (by simp))).1 0
          have hT1 : W1.rowIs (w.heap.size + 1) 46 xs.length _ := HT.out.of_block (hB1.block _ HT.out.lt)
          have hV1 := ownsRow_below' HV.out hB1
          have hlb2 : y.1.1.1 < W.heap.size := by omega
          have hlb3 : y.1.1.1 < W0.heap.size := by omega
          have hm1 := hm k hlt
          have hm2 : (calleesL (posIns pre)).length ≤ pre.length := by
            unfold calleesL
            rw [List.length_map]
            exact Nat.le_trans (List.length_filter_le _ _) (Nat.le_of_eq (posIns_len pre))
          have hS1 : (fun W' : World => W'.cell? ⟨w.heap.size + 1 + 1, 0, none⟩ = some (.slice (some ⟨w.heap.size + 1, 0, none⟩) xs.length xs.length) ∧ W'.cell? ⟨wr.heap.size, 0, none⟩ = some (.int .i64 k) ∧ W'.cell? ⟨w.heap.size + 1, k, none⟩ = some (.slice m (calleesL (posIns pre)).length d) ∧ W'.cell? ⟨y.1.1.1, y.1.1.2 + 6, none⟩ = some (.int .i64 y.1.2.fn)) W1 := ⟨(World.cell?_of_block (hB1.block (w.heap.size + 1 + 1) (by omega))).trans (co 0), (World.cell?_of_block (hB1.block wr.heap.size (by omega))).trans (ck 0), (World.cell?_of_block (hB1.block (w.heap.size + 1) (by omega))).trans hcT, (World.cell?_of_block (hB1.block y.1.1.1 hlb2)).trans y6⟩
          refine ⟨fun _ => hS1, ?_⟩
          refine wpAnyZ_one (i := 11) (by kernel_rfl) rfl rfl ?_
          refine wp_append_at W1 _ _ 46 rfl W0.heap.size 3 i1 (.int .i64 0) 1 8 underInts3 k1 k2 k3 k4 rfl (by omega) (.slice m (calleesL (posIns pre)).length d) _ _ ?_ hV1 ⟨W.heap.size, 0, none⟩ 1 1 [.int .i64 y.1.2.fn] ?_ rfl ?_ ?_ ?_ ?_ (by omega) ?_
          · go_simp
          · go_simp
          · intro j u hu
            cases j with
            | zero =>
              cases hu
              exact hn1
            | succ j => cases hu
          · intro u hu
            obtain rfl : u = _ := by simpa using hu
            rfl
          · unfold maxLen; omega
          · omega
          rintro v2 W2 hV2 hG2 hat
          obtain ⟨m2, d2, rfl⟩ := own_slice hV2
          have hnb : ∀ b, b < W0.heap.size → W2.heap[b]? = W1.heap[b]? := fun b hb => hG2.block b (by omega) (fun e => by have := (hV1.lt b e.symm).1; omega)
          have hS2 : (fun W' : World => W'.cell? ⟨w.heap.size + 1 + 1, 0, none⟩ = some (.slice (some ⟨w.heap.size + 1, 0, none⟩) xs.length xs.length) ∧ W'.cell? ⟨wr.heap.size, 0, none⟩ = some (.int .i64 k) ∧ W'.cell? ⟨w.heap.size + 1, k, none⟩ = some (.slice m (calleesL (posIns pre)).length d) ∧ W'.cell? ⟨y.1.1.1, y.1.1.2 + 6, none⟩ = some (.int .i64 y.1.2.fn)) W2 := ⟨(World.cell?_of_block (hnb (w.heap.size + 1 + 1) (by omega))).trans hS1.1, (World.cell?_of_block (hnb wr.heap.size (by omega))).trans hS1.2.1, (World.cell?_of_block (hnb (w.heap.size + 1) (by omega))).trans hS1.2.2.1, (World.cell?_of_block (hnb y.1.1.1 hlb3)).trans hS1.2.2.2⟩
          refine ⟨fun _ => hS2, ?_⟩
          have hT2 := hT1.of_block (hnb (w.heap.size + 1) (by omega))
          have hfz := hT2.frozen k
          have hck := hT2.cell hlt
          rw [if_pos rfl] at hck
          refine wpAnyZ_take (i := 12) (v := (.pointer (some ⟨w.heap.size + 1, k, none⟩))) rfl (by kernel_rfl) (by kernel_rfl) (by kernel_rfl) (by kernel_rfl) (fun _ _ _ h => h) (.inl ⟨rfl, fun W' hS' => (by obtain ⟨h1, h2, h3, h4⟩ := hS'; go_simp)⟩) hS2 ?_
          refine wpAnyZ_skip (i := 13) (W2.setCell ⟨w.heap.size + 1, k, none⟩ (.slice m2 ((calleesL (posIns pre)).length + 1) d2)) (by kernel_rfl) rfl rfl (by go_simp) (fun h => absurd rfl h) (wpAnyZ_done (by kernel_rfl) ?_ _)
          have hg3 : W2.grownBy (W2.setCell ⟨w.heap.size + 1, k, none⟩ (.slice m2 ((calleesL (posIns pre)).length + 1) d2)) (some (w.heap.size + 1)) :=
            ⟨rfl, rfl, rfl, by rw [Go.Deep.nblk_setCell]; exact Nat.le_refl _, fun i _ hne => Go.Deep.blk_setCell_other _ _ _ _ (fun e => hne (by rw [e]))⟩
          have hV3 := hV2.kept hg3 (.inr (fun e => by have := (hV2.lt _ e).1; omega))
          have hT3 := hT2.set k (.slice m2 ((calleesL (posIns pre)).length + 1) d2)
          generalize (W2.setCell ⟨w.heap.size + 1, k, none⟩ (.slice m2 ((calleesL (posIns pre)).length + 1) d2)) = W3 at hg3 hV3 hT3
          have hob : ∀ b, (Value.slice m (calleesL (posIns pre)).length d).ownBlock = some b → W0.heap.size ≤ b := fun b e => (hV1.lt b e).1
          refine ⟨?_, ⟨?_, ?_⟩, ?_⟩
          · have kA : KeepsOthers W W1 := by rw [← hW1]; exact (KeepsOthers.drew W).trans (KeepsOthers.alloc _ _)
            refine (kA.trans (KeepsOthers.of_grownBy hG2 ?_)).trans (KeepsOthers.of_grownBy hg3 ?_)
            · intro j o e ho
              rcases hV1.2 with ⟨e0, _⟩ | ⟨g, cap, cur, e0, _, hh, _⟩
              · rw [e0] at e; cases e
              · rw [e0] at e; cases e; rw [hh] at ho; cases ho; rfl
            · intro j o e ho
              cases e
              obtain ⟨cs, hcs⟩ := hT2
              rw [hcs.1] at ho
              cases ho; rfl
          · exact ((hB1.mono (by omega)).grown hG2 (by omega) (fun b e => by have := hob b e; omega)).grown hg3 (by have := hG2.size; omega) (fun b e => by cases e; omega)
          · exact (hg3.block _ (by have := hG2.size; omega) (by simp; omega)).trans ((hnb _ (by omega)).trans (hB1.block _ (by omega)))
          · show GraphI _ _ _ _ _ _ _ _ _
            unfold GraphI
            rw [HOp.out, List.length_append, List.map_append]
            refine ⟨_, hT3.congr (fun j _ => ?_), hV3, ?_⟩
            · show (if j = k then _ else (if j = k then _ else f j)) = _
              by_cases e : j = k
              · rw [if_pos e, if_pos e]
              · rw [if_neg e, if_neg e, if_neg e]
            · refine ⟨hg3.os.trans (hG2.os.trans (hB1.os.trans HGr.out.os)), hg3.tape.trans (hG2.tape.trans (hB1.tape.trans HGr.out.tape)), hg3.output.trans (hG2.output.trans (hB1.output.trans HGr.out.output)), Nat.le_trans hWs (Nat.le_trans (by omega) (Nat.le_trans hG2.size hg3.size)), fun i hi hne => ?_⟩
              exact (hg3.block i (by have := hG2.size; omega) hne).trans ((hnb i hi).trans ((hB1.block i (by omega)).trans (HGr.out.block i hi hne)))
      case done =>
        --DONE
        rintro l pre W h1 h2 ⟨v, hT, hv, hg⟩ hDl
        rw [h2] at hv
        have hm1 := hm k hlt
        have hm2 : (calleesL (allIns xs[k])).length ≤ 300 := by
          refine Nat.le_trans ?_ hm1
          unfold calleesL
          rw [List.length_map]
          exact List.length_filter_le _ _
        have HZ : Hid (rowS (calleesL (allIns xs[k])) = rowsTo xs (k + 1) k) := by
          show _ = _
          unfold rowsTo
          rw [if_pos (Nat.lt_succ_self k), List.getElem?_eq_getElem hlt]
        generalize calleesL (allIns xs[k]) = zs at hv hm2 HZ
        clear h2
        obtain ⟨m, d, hvv⟩ := own_slice hv
        subst hvv
        have hcT := hT.cell hlt
        rw [if_pos rfl] at hcT
        have hTf := hT.frozen k
        have HT := hidI hT
        have HV := hidI hv
        have HGr := hidI hg
        have HDl := hidI hDl
        have ck := (blk ((hg.block wr.heap.size (by omega) (by simp; omega)).trans HKb.out)).1
        have co := (blk ((hg.block (w.heap.size + 1 + 1) (by omega) (by simp)).trans HOb.out)).1
        have hWs : W0.heap.size ≤ W.heap.size := hg.size
        clear hT hv hg hDl
        gi_wp2_with (refine ⟨trivial, ?_⟩; refine ((callsIn_wide (n := 2)).2 (sort_own W0.heap.size m d zs _ W HV.out (by omega))).mono ?_; rintro e w2 ⟨rfl, hV2, hG2⟩)
        have hob : ∀ b, (Value.slice m zs.length d).ownBlock = some b → W0.heap.size ≤ b := fun b e => (HV.out.lt b e).1
        have hnb : ∀ b, b < W0.heap.size → w2.heap[b]? = W.heap[b]? := fun b hb => hG2.block b (by omega) (fun e => by have := hob b e.symm; omega)
        have hcT2 := (World.cell?_of_block (a := ⟨w.heap.size + 1, k, none⟩) (hnb (w.heap.size + 1) (by omega))).trans hcT
        have ck2 := (World.cell?_of_block (a := ⟨wr.heap.size, 0, none⟩) (hnb wr.heap.size (by omega))).trans (ck 0)
        have co2 := (World.cell?_of_block (a := ⟨w.heap.size + 1 + 1, 0, none⟩) (hnb (w.heap.size + 1 + 1) (by omega))).trans (co 0)
        have HG2 := hidI hG2
        have HV2 := hidI hV2
        clear hG2 hV2 hcT hTf
        refine wpIn_wide.2 (wp_region_calm (S := (fun W' : World => W'.cell? ⟨w.heap.size + 1 + 1, 0, none⟩ = some (.slice (some ⟨w.heap.size + 1, 0, none⟩) xs.length xs.length) ∧ W'.cell? ⟨wr.heap.size, 0, none⟩ = some (.int .i64 k) ∧ W'.cell? ⟨w.heap.size + 1, k, none⟩ = some (.slice m zs.length d))) (by kernel_rfl) 8 ?_)
        have hS : (fun W' : World => W'.cell? ⟨w.heap.size + 1 + 1, 0, none⟩ = some (.slice (some ⟨w.heap.size + 1, 0, none⟩) xs.length xs.length) ∧ W'.cell? ⟨wr.heap.size, 0, none⟩ = some (.int .i64 k) ∧ W'.cell? ⟨w.heap.size + 1, k, none⟩ = some (.slice m zs.length d)) w2.drew := ⟨co2, ck2, hcT2⟩
        refine wpAnyZ_take (i := 0) (v := (.slice (some ⟨w.heap.size + 1, 0, none⟩) xs.length xs.length)) rfl (by kernel_rfl) (by kernel_rfl) (by kernel_rfl) (by kernel_rfl) (fun _ _ _ h => h) (.inl ⟨rfl, fun W' hS' => (by obtain ⟨h1, h2, h3⟩ := hS'; go_simp)⟩) hS ?_
        refine wpAnyZ_take (i := 1) (v := (.int .i64 k)) rfl (by kernel_rfl) (by kernel_rfl) (by kernel_rfl) (by kernel_rfl) (fun _ _ _ h => h) (.inl ⟨rfl, fun W' hS' => (by obtain ⟨h1, h2, h3⟩ := hS'; go_simp)⟩) hS ?_
        refine wpAnyZ_take (i := 2) (v := (.slice (some ⟨w.heap.size + 1, 0, none⟩) xs.length xs.length)) rfl (by kernel_rfl) (by kernel_rfl) (by kernel_rfl) (by kernel_rfl) (fun _ _ _ h => h) (.inl ⟨rfl, fun W' hS' => (by obtain ⟨h1, h2, h3⟩ := hS'; go_simp)⟩) hS ?_
        refine wpAnyZ_take (i := 3) (v := (.int .i64 k)) rfl (by kernel_rfl) (by kernel_rfl) (by kernel_rfl) (by kernel_rfl) (fun _ _ _ h => h) (.inl ⟨rfl, fun W' hS' => (by obtain ⟨h1, h2, h3⟩ := hS'; go_simp)⟩) hS ?_
        refine wpAnyZ_take (i := 4) (v := (.pointer (some ⟨w.heap.size + 1, k, none⟩))) rfl (by kernel_rfl) (by kernel_rfl) (by kernel_rfl) (by kernel_rfl) (fun _ _ _ h => h) (.inl ⟨rfl, fun W' hS' => (by obtain ⟨h1, h2, h3⟩ := hS'; go_simp)⟩) hS ?_
        refine wpAnyZ_take (i := 5) (v := (.slice m zs.length d)) rfl (by kernel_rfl) (by kernel_rfl) (by kernel_rfl) (by kernel_rfl) (fun _ _ _ h => h) (.inl ⟨rfl, fun W' hS' => (by obtain ⟨h1, h2, h3⟩ := hS'; go_simp)⟩) hS ?_
        refine wpAnyZ_call (i := 6) (f := 123) (args := #[.slice m zs.length d]) (by kernel_rfl) rfl rfl (by go_simp) (compact_own W0.heap.size m d (sortL zs) zs.length w2.drew HV2.out.drew (by omega)) ?_
        rintro e w3 ⟨rfl, hV3, hG3⟩
        have hnc : ∀ b, b < W0.heap.size → w3.heap[b]? = w2.heap[b]? := fun b hb => hG3.block b (by have := HG2.out.size; show _ < w2.heap.size; omega) (fun e => by have := hob b e.symm; omega)
        have hS3 : (fun W' : World => W'.cell? ⟨w.heap.size + 1 + 1, 0, none⟩ = some (.slice (some ⟨w.heap.size + 1, 0, none⟩) xs.length xs.length) ∧ W'.cell? ⟨wr.heap.size, 0, none⟩ = some (.int .i64 k) ∧ W'.cell? ⟨w.heap.size + 1, k, none⟩ = some (.slice m zs.length d)) w3 := ⟨(World.cell?_of_block (hnc (w.heap.size + 1 + 1) (by omega))).trans co2, (World.cell?_of_block (hnc wr.heap.size (by omega))).trans ck2, (World.cell?_of_block (hnc (w.heap.size + 1) (by omega))).trans hcT2⟩
        refine ⟨_, rfl, fun _ => hS3, ?_⟩
        have hT3 := HT.out.of_block ((hnc (w.heap.size + 1) (by omega)).trans (hnb (w.heap.size + 1) (by omega)))
        have hfz := hT3.frozen k
        have hck := hT3.cell hlt
        rw [if_pos rfl] at hck
        refine wpAnyZ_take (i := 7) (v := (.pointer (some ⟨w.heap.size + 1, k, none⟩))) rfl (by kernel_rfl) (by kernel_rfl) (by kernel_rfl) (by kernel_rfl) (fun _ _ _ h => h) (.inl ⟨rfl, fun W' hS' => (by obtain ⟨h1, h2, h3⟩ := hS'; go_simp)⟩) hS3 ?_
        refine wpAnyZ_skip (i := 8) (w3.setCell ⟨w.heap.size + 1, k, none⟩ (.slice m (Go.Lib.compact (sortL zs)).length d)) (by kernel_rfl) rfl rfl (by go_simp) (fun h => absurd rfl h) (wpAnyZ_done (by kernel_rfl) ?_ _)
        have hg4 : w3.grownBy (w3.setCell ⟨w.heap.size + 1, k, none⟩ (.slice m (Go.Lib.compact (sortL zs)).length d)) (some (w.heap.size + 1)) :=
          ⟨rfl, rfl, rfl, by rw [Go.Deep.nblk_setCell]; exact Nat.le_refl _, fun i _ hne => Go.Deep.blk_setCell_other _ _ _ _ (fun e => hne (by rw [e]))⟩
        have hV4 := hV3.kept hg4 (.inr (fun e => by have := (hV3.lt _ e).1; omega))
        have hT4 := hT3.set k (.slice m (Go.Lib.compact (sortL zs)).length d)
        generalize (w3.setCell ⟨w.heap.size + 1, k, none⟩ (.slice m (Go.Lib.compact (sortL zs)).length d)) = w4 at hg4 hV4 hT4
        show Exit.inBlock 1 _ Exit.normal _ _
        have HV4 := hidI hV4
        have HT4 := hidI hT4
        have HG4 := hidI hg4
        have HG3 := hidI hG3
        clear hV4 hT4 hg4 hG3 hV3 hT3 hS3 hS co2 ck2 hcT2 hck hfz co ck
        gi_wp2
        have hBs : (((w.alloc (.cells #[.slice gp gl gc, .slice (some ⟨b2, o2, none⟩) xs.length fc] 25)).alloc (.cells (madeCells #[.slice none 0 0] xs.length) 46)).alloc (.cells #[.slice (some ⟨w.heap.size + 1, 0, none⟩) xs.length xs.length] 94)).heap.size = w.heap.size + 1 + 1 + 1 := by simp
        have s3 : w2.heap.size ≤ w3.heap.size := HG3.out.size
        have s2 := HG2.out.size
        have s4 := HG4.out.size
        have hch : ∀ b, b < W0.heap.size → b ≠ w.heap.size + 1 → w4.heap[b]? = W0.heap[b]? := fun b hb hne =>
          (HG4.out.block b (by omega) (fun e => hne (by injection e))).trans ((hnc b hb).trans ((hnb b hb).trans (HGr.out.block b hb (fun e => hne (by injection e)))))
        have hll : l < W.heap.size := (Array.getElem?_eq_some_iff.1 HDl.out).1
        have hlo : some l ≠ (Value.slice m zs.length d).ownBlock := fun e => by
          rcases HV.out.2 with ⟨e0, _⟩ | ⟨g, cap, cur, e0, _, hh, _⟩
          · rw [e0] at e; cases e
          · rw [e0] at e
            cases e
            rw [HDl.out] at hh
            cases hh
        refine ⟨⟨_, _, _, _, _, _, _, _, _, _, _, _, _, _, _, _, _, _, _, _, _, _, _, _, _, _, _, _, _, _, _, _, _, _, _, _, _, _, _, _, _, _, k + 1, l :: Ds, fun j => if j = k then .slice m (Go.Lib.compact (sortL zs)).length d else f j, ⟨hlt, ?_, ?_, ?_, ?_, ?_⟩, rfl⟩, ?_⟩
        · refine (RowsT.turn HR0.out hlt (HT4.out.congr fun j _ => ?_) (ownsRow_base HV4.out (by omega)) (fun b hb hne _ => hch b hb hne) (by omega) ?_).congr fun j hj => ?_
          · show (if j = k then _ else (if j = k then _ else f j)) = _
            by_cases e : j = k
            · rw [if_pos e, if_pos e]
            · rw [if_neg e, if_neg e, if_neg e]
          · cases hb : (Value.slice m (Go.Lib.compact (sortL zs)).length d).ownBlock with
            | none => exact .inl (by rw [HNil.out k (Nat.le_refl _)]; rfl)
            | some g => exact .inr ⟨g, rfl, (HV4.out.lt g hb).1⟩
          · show (if j = k then _ else _) = _
            by_cases e : j = k
            · rw [if_pos e, e]; exact HZ.out
            · rw [if_neg e]
              unfold rowsTo
              by_cases e2 : j < k
              · rw [if_pos e2, if_pos (by omega)]
              · rw [if_neg e2, if_neg (by omega)]
        · refine ⟨HG4.out.os.trans (HG3.out.os.trans (HG2.out.os.trans (HGr.out.os.trans (HBW.out.os.trans HG.out.os)))), HG4.out.tape.trans (HG3.out.tape.trans (HG2.out.tape.trans (HGr.out.tape.trans (HBW.out.tape.trans HG.out.tape)))), HG4.out.output.trans (HG3.out.output.trans (HG2.out.output.trans (HGr.out.output.trans (HBW.out.output.trans HG.out.output)))), by rw [hBs]; omega, fun i hi hne => ?_⟩
          rw [hBs] at hi
          exact (hch i (by omega) (fun e => hne (by rw [e]))).trans ((HBW.out.block i (by omega)).trans (HG.out.block i (by rw [hBs]; exact hi) hne))
        · refine List.nodup_cons.2 ⟨fun hh => ?_, HN.out⟩
          have := (Array.getElem?_eq_some_iff.1 (HD.out l hh).2).1
          omega
        · intro j hj
          show (if j = k then _ else _) = _
          rw [if_neg (by omega)]
          exact HNil.out j (by omega)
        · intro D hD
          rcases List.mem_cons.1 hD with rfl | hD
          · exact ⟨by omega, (HG4.out.block _ (by omega) (by simp; omega)).trans ((HG3.out.block _ (show _ < w2.heap.size by omega) hlo).trans ((HG2.out.block _ hll hlo).trans HDl.out))⟩
          · obtain ⟨e1, e2⟩ := HD.out D hD
            have := (Array.getElem?_eq_some_iff.1 e2).1
            exact ⟨e1, (hch D (by omega) (by omega)).trans ((HBW.out.block D this).trans e2)⟩
        · show xs.length - ((k : Int) + 1).toNat < xs.length - ((k : Int)).toNat
          omega
      case stop =>
        rintro D c pre W _ _ h _
        exact h.elim
    · have hkn : k = xs.length := by omega
      have co := (blk ((HG.out.block (w.heap.size + 1 + 1) (by simp) (by simp)).trans (heap_at (by simp)))).1
      gi_wp2
      show LeavesInM _ _ _ _ _ _ (marks Ds) .returning wr
      refine leaves_marks (w.heap.size + 1 + 1 + 1) Ds wr HN.out HD.out (fun w' h1 h2 h3 h4 h5 => ⟨_, results_tmp (t := 2) rfl _ _ _, w.heap.size + 1, rfl, ?_, ?_⟩)
      · subst hkn
        have hR' : RowsT w' (w.heap.size + 1 + 1 + 1) (w.heap.size + 1) xs.length 46 3 f (rowsTo xs xs.length) := by
          refine ⟨HR.out.tab.of_block (h5 _ (fun hh => by have := (HD.out _ hh).1; omega)), fun j hj => ?_, HR.out.two, HR.out.low⟩
          obtain ⟨a, b⟩ := HR.out.row j hj
          refine ⟨a, ?_⟩
          rcases b with hb | ⟨g, cap, cur, e0, e1, e2, e3⟩
          · exact .inl hb
          · refine .inr ⟨g, cap, cur, e0, e1, (h5 g (fun hh => ?_)).trans e2, e3⟩
            have := (HD.out g hh).2
            rw [e2] at this
            cases this
        have hr := hR'.reads fun j hj => ?_
        · rw [rowsTo_all] at hr
          exact hr
        · have e : rowsTo xs xs.length j = rowS (calleesL (allIns xs[j])) := by simp [rowsTo, hj]
          rw [e]
          refine ⟨?_, fun x hx => hI j hj x (rowS_mem hx)⟩
          refine Nat.le_trans (rowS_len _) ?_
          unfold calleesL
          rw [List.length_map]
          exact Nat.le_trans (List.length_filter_le _ _) (Nat.le_trans (hm j hj) (by decide))
      · have hb := graph_below HG.out
        exact ⟨h1.trans hb.os, h2.trans hb.tape, h3.trans hb.output, Nat.le_trans hb.size h4, fun i hi => (h5 i (fun hh => by have := (HD.out i hh).1; omega)).trans (hb.block i hi)⟩
end Go.Proofs.YtdjamkinijhjoaaDoor
