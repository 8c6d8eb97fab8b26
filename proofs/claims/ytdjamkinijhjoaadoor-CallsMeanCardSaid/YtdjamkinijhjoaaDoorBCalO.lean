/-
  Plain: depth first, what is visited; the unvisited ones, counted.
The contract of what calls.reach does at one function: depth first.
The contract of turneryref5.CallsTable.
The contract of calls.reach.
Plain: the reference's table is what paths say; the contract of calls.Reach.
Plain: rings of functions that reach each other, and the order of who is called ahead of who calls.
-/
import Derived.Test.YtdjamkinijhjoaaDoorBCalM
import Derived.Test.YtdjamkinijhjoaaDoorBCalA
import Derived.WalkKit
import Derived.WalkSpells
import Derived.WalkLawsBesides
import Derived.Laws.EntriesVeiled
namespace Go.Proofs.YtdjamkinijhjoaaDoor

/-- how many are not visited -/
def leftN (n : Nat) (had : Nat → Bool) : Nat := ((List.range n).filter fun j => !had j).length
theorem filter_mono {p q : Nat → Bool} : ∀ (l : List Nat), (∀ x ∈ l, p x = true → q x = true) → (l.filter p).length ≤ (l.filter q).length
  | [], _ => by simp
  | a :: l, h => by
    have ih := filter_mono l (fun x hx => h x (List.mem_cons_of_mem _ hx))
    have ha := h a List.mem_cons_self
    by_cases hp : p a = true
    · rw [List.filter_cons_of_pos hp, List.filter_cons_of_pos (ha hp)]
      simpa using ih
    · rw [List.filter_cons_of_neg hp]
      by_cases hq : q a = true
      · rw [List.filter_cons_of_pos hq]; simp; omega
      · rw [List.filter_cons_of_neg hq]; exact ih
theorem filter_less {p q : Nat → Bool} {k : Nat} : ∀ (l : List Nat), (∀ x ∈ l, p x = true → q x = true) → k ∈ l → p k = false → q k = true → (l.filter p).length < (l.filter q).length
  | [], _, h, _, _ => by cases h
  | a :: l, h, hk, h1, h2 => by
    have ha := h a List.mem_cons_self
    rcases List.mem_cons.1 hk with e | hk2
    · subst e
      have ih := filter_mono l (fun x hx => h x (List.mem_cons_of_mem _ hx))
      rw [List.filter_cons_of_neg (by simp [h1]), List.filter_cons_of_pos h2]
      simp; omega
    · have ih := filter_less l (fun x hx => h x (List.mem_cons_of_mem _ hx)) hk2 h1 h2
      by_cases hp : p a = true
      · rw [List.filter_cons_of_pos hp, List.filter_cons_of_pos (ha hp)]
        simpa using ih
      · rw [List.filter_cons_of_neg hp]
        by_cases hq : q a = true
        · rw [List.filter_cons_of_pos hq]; simp; omega
        · rw [List.filter_cons_of_neg hq]; exact ih
theorem leftN_mono {n : Nat} {p q : Nat → Bool} (h : ∀ j, p j = true → q j = true) : leftN n q ≤ leftN n p :=
  filter_mono _ fun x _ hx => by
    cases hp : p x with
    | false => rfl
    | true => rw [h x hp] at hx; cases hx
theorem leftN_less {n k : Nat} {p q : Nat → Bool} (h : ∀ j, p j = true → q j = true) (hk : k < n) (h1 : p k = false) (h2 : q k = true) : leftN n q < leftN n p := by
  refine filter_less (k := k) _ (fun x _ hx => ?_) (List.mem_range.2 hk) (by simp [h2]) (by simp [h1])
  cases hp : p x with
  | false => rfl
  | true => rw [h x hp] at hx; cases hx

/-- who calls whom -/
def edgeL (gs : List (List Int)) (a b : Nat) : Prop := ∃ r, gs[a]? = some r ∧ (b : Int) ∈ r
/-- what a visit of k leaves -/
structure Visits (n : Nat) (gs : List (List Int)) (k : Nat) (had had' : Nat → Bool) : Prop where
  up : ∀ j, had j = true → had' j = true
  self : had' k = true
  path : ∀ j, j < n → had' j = true → had j = true ∨ Path n (edgeL gs) k j
  next : ∀ j, j < n → had' j = true → had j = false → ∀ x, x < n → edgeL gs j x → had' x = true
/-- between two callees of k: the first m are visited -/
structure VisitsTo (n : Nat) (gs : List (List Int)) (k : Nat) (row : List Int) (m : Nat) (had had' : Nat → Bool) : Prop where
  up : ∀ j, had j = true → had' j = true
  self : had' k = true
  path : ∀ j, j < n → had' j = true → had j = true ∨ Path n (edgeL gs) k j
  next : ∀ j, j < n → had' j = true → had j = false → j ≠ k → ∀ x, x < n → edgeL gs j x → had' x = true
  to : ∀ i (h : i < row.length), i < m → ∀ x : Nat, row[i] = (x : Int) → had' x = true

theorem VisitsTo.start {n : Nat} {gs : List (List Int)} {k : Nat} {row : List Int} {had : Nat → Bool} : VisitsTo n gs k row 0 had (fun j => if j = k then true else had j) where
  up := fun j h => by
    show (if j = k then true else had j) = true
    split
    · rfl
    · exact h
  self := by simp
  path := fun j _ h => by
    replace h : (if j = k then true else had j) = true := h
    by_cases e : j = k
    · subst e; exact .inr (.refl _)
    · rw [if_neg e] at h; exact .inl h
  next := fun j _ h h0 hk => by
    replace h : (if j = k then true else had j) = true := h
    rw [if_neg hk, h0] at h
    cases h
  to := fun i _ h => by omega
theorem VisitsTo.succ {n : Nat} {gs : List (List Int)} {k m : Nat} {row : List Int} {had h1 h2 : Nat → Bool} (h : VisitsTo n gs k row m had h1) (hr : gs[k]? = some row) (hm : m < row.length) {x : Nat} (hx : row[m] = (x : Int)) (hxn : x < n) (v : Visits n gs x h1 h2) : VisitsTo n gs k row (m + 1) had h2 where
  up := fun j hj => v.up j (h.up j hj)
  self := v.up _ h.self
  path := fun j hj hh => by
    rcases v.path j hj hh with e | e
    · exact h.path j hj e
    · refine .inr (Path.trans (.step (.refl _) ⟨row, hr, ?_⟩ hxn) e)
      rw [← hx]
      exact List.getElem_mem hm
  next := fun j hj hh h0 hk y hy he => by
    cases hj1 : h1 j with
    | true => exact v.up _ (h.next j hj hj1 h0 hk y hy he)
    | false => exact v.next j hj hh hj1 y hy he
  to := fun i hi him y hy => by
    by_cases e : i < m
    · exact v.up _ (h.to i hi e y hy)
    · obtain rfl : i = m := by omega
      rw [hx] at hy
      have : x = y := by omega
      subst this
      exact v.self
theorem VisitsTo.done {n : Nat} {gs : List (List Int)} {k : Nat} {row : List Int} {had had' : Nat → Bool} (h : VisitsTo n gs k row row.length had had') (hr : gs[k]? = some row) : Visits n gs k had had' where
  up := h.up
  self := h.self
  path := h.path
  next := fun j hj hh h0 x hx he => by
    by_cases e : j = k
    · subst e
      obtain ⟨r, hr2, hm⟩ := he
      rw [hr] at hr2
      cases hr2
      obtain ⟨i, hi, e2⟩ := List.getElem_of_mem hm
      exact h.to i hi hi x e2
    · exact h.next j hj hh h0 e x hx he
theorem Visits.had {n : Nat} {gs : List (List Int)} {k : Nat} {had : Nat → Bool} (h : had k = true) : Visits n gs k had had where
  up := fun _ h => h
  self := h
  path := fun _ _ h => .inl h
  next := fun j _ h1 h2 => by rw [h1] at h2; cases h2
/-- from nothing: just what k reaches -/
theorem Visits.all {n : Nat} {gs : List (List Int)} {k : Nat} {had' : Nat → Bool} (v : Visits n gs k (fun _ => false) had') {j : Nat} (hk : k < n) (hj : j < n) : had' j = true ↔ Path n (edgeL gs) k j := by
  constructor
  · intro h
    rcases v.path j hj h with e | e
    · cases e
    · exact e
  · intro h
    have key : ∀ a b, Path n (edgeL gs) a b → a < n → had' a = true → b < n ∧ had' b = true := by
      intro a b hp
      induction hp with
      | refl => exact fun ha h => ⟨ha, h⟩
      | step _ e hc ih => exact fun ha h => ⟨hc, v.next _ (ih ha h).1 (ih ha h).2 rfl _ hc e⟩
    exact (key k j h hk v.self).2
end Go.Proofs.YtdjamkinijhjoaaDoor
namespace Go.Proofs.YtdjamkinijhjoaaDoor
open Go.RowKit

set_option maxHeartbeats 1000000 in
theorem visit_any (gs : List (List Int)) (gp : Option Addr) (gc : Nat) (w0 : World) (_hl : gs.length ≤ 10) (hS : SliceAt w0 1 (IntsR w0) gp gs) (hE : ∀ k (h : k < gs.length), ∀ x ∈ gs[k], 0 ≤ x ∧ x < (gs.length : Int)) (V H G F : Nat) (hV : w0.heap.size ≤ V) (hVH : V ≠ H) (hVG : V ≠ G) (hVF : V ≠ F) :
    ∀ (c : Nat) (had : Nat → Bool) (w : World) (k : Nat), leftN gs.length had < c → k < gs.length → Below w0.heap.size w0 w → w.rowIs V 4 gs.length (fun j => .bool (had j)) →
      w.cell? ⟨H, 0, none⟩ = some (.slice (some ⟨V, 0, none⟩) gs.length gs.length) → w.cell? ⟨G, 0, none⟩ = some (.slice gp gs.length gc) → w.cell? ⟨F, 0, none⟩ = some (.func (.func 78) #[] #[.pointer (some ⟨H, 0, none⟩), .pointer (some ⟨G, 0, none⟩), .pointer (some ⟨F, 0, none⟩)]) →
      Calls Tryd.prog 78 #[.int .i64 k, .pointer (some ⟨H, 0, none⟩), .pointer (some ⟨G, 0, none⟩), .pointer (some ⟨F, 0, none⟩)] w fun e w' => e = .returned (.tuple #[]) ∧ w.grownBy w' (some V) ∧ ∃ had', w'.rowIs V 4 gs.length (fun j => .bool (had' j)) ∧ Visits gs.length gs k had had' := by
  intro c
  induction c with
  | zero => intro had w k h; omega
  | succ c ih =>
    intro had w k hc hk hb hR cH cG cF
    obtain ⟨b, o, q, d, hp, e0, hlr, hrs⟩ := rowGet hS (Below.refl _ _) hk
    subst hp
    have hbb := lt_of_cell e0
    have e1 := (hb.cell (p := ⟨b, o + k, none⟩) hbb).trans e0
    have HB := hidI hb
    have HR := hidI hR
    have HS := hidI hS
    have HRS := hidI hrs
    have HE := hidI hE
    have hcV := hR.cell hk
    have hfV := hR.frozen k
    have hVs := hR.lt
    have IH := hidI ih
    clear ih hb hS hrs e0 hE
    cases hh : had k
    · have hbV : b ≠ V := by omega
      rw [hh] at hcV
      have hVH' := hVH.symm
      have hVG' := hVG.symm
      have hVF' := hVF.symm
      have hbV' := hbV.symm
      have HH := hidI hh
      have HR1 := hidI (hR.set k (.bool true))
      clear hR hh
      go_enter Tryd.func78, Tryd.ntmps78
      go_wp2
      go_loopw [6, 19] (fun _ i wr => ∃ (m : Nat) (had1 : Nat → Bool), m ≤ gs[k].length ∧ i = .int .i64 m ∧ VisitsTo gs.length gs k gs[k] m had had1 ∧ wr.rowIs V 4 gs.length (fun j => .bool (had1 j)) ∧ w.grownBy wr (some V)) (fun _ i _ => gs[k].length - (intOf i).toNat)
      case atStart =>
        refine ⟨0, fun j => if j = k then true else had j, by omega, rfl, .start, HR1.out.congr fun j _ => ?_, ⟨rfl, rfl, rfl, by rw [Go.Deep.nblk_setCell]; exact Nat.le_refl _, fun i _ hne => Go.Deep.blk_setCell_other _ _ _ _ (fun e => hne (by rw [e]))⟩⟩
        show (if j = k then _ else _) = Value.bool (if j = k then true else had j)
        split <;> rfl
      case round =>
        obtain ⟨m, had1, hm, rfl, hv, hr1, hg1⟩ := hrel
        have hlF := lt_of_cell cF
        have hlH := lt_of_cell cH
        have hlG := lt_of_cell cG
        have hsz := HB.out.size
        have hBr : Below w0.heap.size w0 wr := HB.out.grown hg1 hsz (fun b e => by cases e; exact hV)
        by_cases hlt : m < gs[k].length
        · obtain ⟨b4, o4, hp4, f0, hi⟩ := intGet HRS.out hBr hlt
          subst hp4
          obtain ⟨hx0, hx1⟩ := HE.out k hk _ (List.getElem_mem hlt)
          obtain ⟨y, hy⟩ : ∃ y : Nat, gs[k][m] = (y : Int) := ⟨gs[k][m].toNat, by omega⟩
          rw [hy] at f0 hx1
          have hyn : y < gs.length := by omega
          have cF1 := (World.cell?_of_block (a := ⟨F, 0, none⟩) (hg1.block F hlF (by simp; exact hVF'))).trans cF
          have cH1 := (World.cell?_of_block (a := ⟨H, 0, none⟩) (hg1.block H hlH (by simp; exact hVH'))).trans cH
          have cG1 := (World.cell?_of_block (a := ⟨G, 0, none⟩) (hg1.block G hlG (by simp; exact hVG'))).trans cG
          have hless : leftN gs.length had1 < c := by
            have := leftN_less hv.up hk HH.out hv.self
            omega
          have HV := hidI hv
          have HG1 := hidI hg1
          have HR2 := hidI hr1
          have HBR := hidI hBr
          have HY := hidI hy
          clear hv hg1 hr1 hBr hy
          go_wp2_with (go_at_call 78; refine (IH.out had1 wr y hless hyn HBR.out HR2.out cH1 cG1 cF1).mono ?_; rintro e w2 ⟨rfl, hg2, had2, hr2, hv2⟩)
          refine ⟨⟨m + 1, had2, by omega, by go_num, HV.out.succ (List.getElem?_eq_getElem hk) hlt HY.out hyn hv2, hr2, ?_⟩, by simp [intOf]; omega⟩
          exact ⟨hg2.os.trans HG1.out.os, hg2.tape.trans HG1.out.tape, hg2.output.trans HG1.out.output, Nat.le_trans HG1.out.size hg2.size, fun i hi hne => (hg2.block i (by have := HG1.out.size; omega) hne).trans (HG1.out.block i hi hne)⟩
        · obtain rfl : m = gs[k].length := by omega
          go_wp2
          go_end0
          exact ⟨rfl, hg1, had1, hr1, hv.done (List.getElem?_eq_getElem hk)⟩
    · rw [hh] at hcV
      go_enter Tryd.func78, Tryd.ntmps78
      go_wp2
      exact bodyPost_ret (v := .tuple #[]) (results_none rfl _ _ _) rfl ⟨rfl, ⟨rfl, rfl, rfl, Nat.le_refl _, fun _ _ _ => rfl⟩, had, HR.out, Visits.had hh⟩
end Go.Proofs.YtdjamkinijhjoaaDoor
namespace Go.Proofs.YtdjamkinijhjoaaDoor
open Go.RowKit

/-- a table of truths in a world: its rows are blocks of their own -/
structure TabW (w : World) (B : Nat) (ts tb : TypeId) (v : Value) (n k : Nat) (g : Nat → Nat) (T : Tab) : Prop where
  own : w.ownsRow B ts 1 v k ((List.range k).map fun j => .slice (some ⟨g j, 0, none⟩) n n)
  row : ∀ j, j < k → w.rowIs (g j) tb n (fun x => .bool (T j x))
  low : ∀ j, j < k → B ≤ g j
  apart : ∀ j, j < k → v.ownBlock ≠ some (g j)
  inj : ∀ i j, i < k → j < k → g i = g j → i = j
theorem TabW.nil (w : World) (B : Nat) (ts tb : TypeId) (n : Nat) (g : Nat → Nat) (T : Tab) : TabW w B ts tb (.slice none 0 0) n 0 g T :=
  ⟨World.ownsRow_nil _ _ _ _, fun j h => by omega, fun j h => by omega, fun j h => by omega, fun i j h => by omega⟩
theorem rowIs_below {w w' : World} {b : Nat} {t : TypeId} {n : Nat} {f : Nat → Value} (h : w.rowIs b t n f) (hb : Below w.heap.size w w') : w'.rowIs b t n f := h.of_block (hb.block b h.lt)
theorem TabW.below {w w' : World} {B : Nat} {ts tb : TypeId} {v : Value} {n k : Nat} {g : Nat → Nat} {T : Tab} (h : TabW w B ts tb v n k g T) (hb : Below w.heap.size w w') : TabW w' B ts tb v n k g T :=
  ⟨ownsRow_below' h.own hb, fun j hj => rowIs_below (h.row j hj) hb, h.low, h.apart, h.inj⟩
theorem TabW.congr {w : World} {B : Nat} {ts tb : TypeId} {v : Value} {n k : Nat} {g : Nat → Nat} {T T' : Tab} (h : TabW w B ts tb v n k g T) (e : ∀ a b, a < k → b < n → T a b = T' a b) : TabW w B ts tb v n k g T' :=
  ⟨h.own, fun j hj => (h.row j hj).congr fun x hx => by rw [e j x hj hx], h.low, h.apart, h.inj⟩
theorem TabW.cell {w : World} {B : Nat} {ts tb : TypeId} {p : Option Addr} {c n k : Nat} {g : Nat → Nat} {T : Tab} (h : TabW w B ts tb (.slice p k c) n k g T) {j : Nat} (hj : j < k) : ∃ q, p = some ⟨q, 0, none⟩ ∧ w.cell? ⟨q, j, none⟩ = some (.slice (some ⟨g j, 0, none⟩) n n) := by
  obtain ⟨q, hq, _, _, hc⟩ := own_cell h.own hj
  refine ⟨q, hq, ?_⟩
  rw [hc]
  simp [hj]
theorem TabW.bit {w : World} {B : Nat} {ts tb : TypeId} {v : Value} {n k : Nat} {g : Nat → Nat} {T : Tab} (h : TabW w B ts tb v n k g T) {j x : Nat} (hj : j < k) (hx : x < n) : w.cell? ⟨g j, x, none⟩ = some (.bool (T j x)) ∧ w.frozen? ⟨g j, x, none⟩ = false :=
  ⟨(h.row j hj).cell hx, (h.row j hj).frozen x⟩
/-- a bit is set -/
theorem TabW.set {w : World} {B : Nat} {ts tb : TypeId} {v : Value} {n k : Nat} {g : Nat → Nat} {T : Tab} (h : TabW w B ts tb v n k g T) {j x : Nat} (hj : j < k) (b : Bool) : TabW (w.setCell ⟨g j, x, none⟩ (.bool b)) B ts tb v n k g (fun a c => if a = j ∧ c = x then b else T a c) := by
  refine ⟨?_, fun i hi => ?_, h.low, h.apart, h.inj⟩
  · refine h.own.kept (row := some (g j)) ⟨rfl, rfl, rfl, by simp [World.setCell], fun kk hk hne => Below.heap_setCell _ _ _ _ (fun e => hne (by rw [e]))⟩ ?_
    exact .inr (h.apart j hj)
  · by_cases hij : i = j
    · subst hij
      refine ((h.row i hi).set x (.bool b)).congr fun y _ => ?_
      by_cases hy : y = x
      · simp [hy]
      · simp [hy]
    · refine ((h.row i hi).setOther (a := ⟨g j, x, none⟩) (fun e => hij (h.inj i j hi hj e)) _).congr fun y _ => ?_
      simp [hij]
/-- a row more -/
theorem TabW.snoc {w w' : World} {B : Nat} {ts tb : TypeId} {v v' : Value} {n k r : Nat} {g : Nat → Nat} {T : Tab} (h : TabW w B ts tb v n k g T) (hr : w.rowIs r tb n (fun x => .bool (T k x))) (hB : B ≤ r) (hv : v.ownBlock ≠ some r) (hn : ∀ j, j < k → g j ≠ r)
    (hown : w'.ownsRow B ts 1 v' (k + 1) (((List.range k).map fun j => .slice (some ⟨g j, 0, none⟩) n n) ++ [.slice (some ⟨r, 0, none⟩) n n])) (hg : w.grownBy w' v.ownBlock) (hat : v'.ownBlock = v.ownBlock ∨ v'.ownBlock = some w.heap.size) :
    TabW w' B ts tb v' n (k + 1) (fun j => if j = k then r else g j) T := by
  have keep : ∀ b f, w.rowIs b tb n f → v.ownBlock ≠ some b → w'.rowIs b tb n f ∧ v'.ownBlock ≠ some b := fun b f hb hne => by
    refine ⟨hb.of_block (hg.block b hb.lt (fun e => hne e.symm)), ?_⟩
    rcases hat with e | e
    · rw [e]; exact hne
    · rw [e]
      intro he
      have := hb.lt
      injection he with he
      omega
  refine ⟨?_, fun j hj => ?_, fun j hj => ?_, fun j hj => ?_, fun i j hi hj he => ?_⟩
  · have e : ((List.range (k + 1)).map fun j => Value.slice (some ⟨if j = k then r else g j, 0, none⟩) n n) = ((List.range k).map fun j => .slice (some ⟨g j, 0, none⟩) n n) ++ [.slice (some ⟨r, 0, none⟩) n n] := by
      rw [List.range_succ, List.map_append]
      congr 1
      · refine List.map_congr_left fun j hj => ?_
        have := List.mem_range.1 hj
        rw [if_neg (by omega)]
      · simp
    rw [e]
    exact hown
  · by_cases hjk : j = k
    · subst hjk
      simp only [if_true]
      exact (keep _ _ hr hv).1
    · simp only [if_neg hjk]
      exact (keep _ _ (h.row j (by omega)) (h.apart j (by omega))).1
  · by_cases hjk : j = k
    · simp only [if_pos hjk]; exact hB
    · simp only [if_neg hjk]; exact h.low j (by omega)
  · by_cases hjk : j = k
    · subst hjk
      simp only [if_true]
      exact (keep _ _ hr hv).2
    · simp only [if_neg hjk]
      exact (keep _ _ (h.row j (by omega)) (h.apart j (by omega))).2
  · by_cases h1 : i = k <;> by_cases h2 : j = k
    · rw [h1, h2]
    · simp only [if_pos h1, if_neg h2] at he
      exact absurd he.symm (hn j (by omega))
    · simp only [if_neg h1, if_pos h2] at he
      exact absurd he (hn i (by omega))
    · simp only [if_neg h1, if_neg h2] at he
      exact h.inj i j (by omega) (by omega) he

/-- does one call another one, or is it that one? -/
def baseT (xs : List FunL) : Tab := fun a b => a == b || (match xs[a]? with | some f => callsB f (b : Int) | none => false)
/-- who reaches whom -/
def tableU (xs : List FunL) : Tab := fwUp xs.length (baseT xs) xs.length

theorem underBools : Tryd.prog.underlying 59 = some (.slice 4) := by kernel_rfl
theorem underTab : Tryd.prog.underlying 103 = some (.slice 59) := by kernel_rfl
theorem infoBool : (Tryd.prog.info? 4).map (fun i => (i.zero, i.size, i.bytes)) = some (some (.bool false), 1, 1) := by kernel_rfl
theorem infoBools : (Tryd.prog.info? 59).map (fun i => (i.zero, i.size, i.bytes)) = some (some (.slice none 0 0), 1, 24) := by kernel_rfl

set_option maxRecDepth 100000 in
set_option maxHeartbeats 2000000 in
theorem table_any (xs : List FunL) (gp fp : Option Addr) (gl gc fc : Nat) (w : World) (hl : xs.length ≤ 10) (hF : SliceAt w 4 (FunR w) fp xs) :
    Calls Tryd.prog 42 #[.agg #[.slice gp gl gc, .slice fp xs.length fc]] w fun e w' => (∃ p c g, e = .returned (.slice p xs.length c) ∧ TabW w' (w.heap.size + 1) 59 4 (.slice p xs.length c) xs.length xs.length g (tableU xs)) ∧ Below w.heap.size w w' := by
  obtain ⟨i1, k1, k2, k3, k4⟩ := info_parts infoBool
  obtain ⟨i2, l1, l2, l3, l4⟩ := info_parts infoBools
  have hmk := run_make_row 59 4 i1 (.bool false) underBools k1 k2 k3 rfl .i64 .i64 xs.length (by rw [k4]; omega) (by omega)
  have HF := hidI hF
  clear hF
  go_enter Tryd.func42, Tryd.ntmps42
  go_wp2
  go_loopw [4, 5] (fun v i wr => ∃ (k : Nat) (g : Nat → Nat), k ≤ xs.length ∧ i = .int .i64 k ∧ TabW wr (w.heap.size + 1) 59 4 v xs.length k g (baseT xs) ∧ Below (w.heap.size + 1) (w.alloc (.cells #[.slice gp gl gc, .slice fp xs.length fc] 25)) wr) (fun _ i _ => xs.length - (intOf i).toNat)
  case atStart => exact ⟨0, fun _ => 0, by omega, rfl, TabW.nil _ _ _ _ _ _ _, Below.refl _ _⟩
  case round =>
    obtain ⟨k, g, hk, rfl, hR, hb⟩ := hrel
    obtain ⟨wo, hwo⟩ : ∃ wo : World, wo = wr := ⟨_, rfl⟩
    obtain ⟨p, c, hv⟩ := own_slice hR.own
    subst hv
    have HR := hidI hR
    have HB := hidI hb
    have HBx : Hid (Below w.heap.size w wr) := ((Below.refl _ _).alloc (Nat.le_refl _) _).trans (hb.mono (by omega))
    have hz : w.heap.size < wr.heap.size := by have := hb.size; simp at this; omega
    have HA := hidI (heap_below hb (by omega) (heap_here w _))
    clear hR hb
    by_cases hlt : k < xs.length
    · go_wp2
      subst hwo
      go_loopw [7] (fun i wq => ∃ x : Nat, x ≤ xs.length ∧ i = .int .i64 x ∧ wq.rowIs wo.heap.size 4 xs.length (fun y => .bool (decide (y < x) && baseT xs k y)) ∧ Below wo.heap.size wo wq) (fun i _ => xs.length - (intOf i).toNat)
      case atStart => exact ⟨0, by omega, rfl, by have := World.rowIs_made wo (.bool false) xs.length 4; simpa using this, by repeat (first | with_reducible exact Below.refl _ _ | with_reducible exact HB3.out | with_reducible refine Below.drew ?_ | with_reducible refine below_drewN ?_ _ | with_reducible refine Below.setCell ?_ ?_ _ | with_reducible refine Below.alloc ?_ ?_ _ | with_reducible exact HB2.out | with_reducible exact HB1.out | with_reducible refine Below.trans ?_ (Below.mono hb3 ?_) | with_reducible refine Below.trans ?_ (Below.mono hb5 ?_) | with_reducible refine Below.trans ?_ (Below.mono hb4 ?_) | omega | (simp; omega) | simp)⟩
      case round =>
        obtain ⟨x, hx, rfl, hrow, hb⟩ := hrel
        have HRow := hidI hrow
        have HBn := hidI hb
        have hzn : wo.heap.size < wr.heap.size := hrow.lt
        have hz2 : w.heap.size < wr.heap.size := by omega
        obtain ⟨hcc, hcf⟩ := blk (heap_below hb hz HA.out)
        clear hrow hb
        by_cases hlt2 : x < xs.length
        · have hc0 := HRow.out.cell hlt2
          have hf0 := HRow.out.frozen x
          have fin : ∀ (W : World), Below wr.heap.size wr W → Below wo.heap.size wo (W.setCell ⟨wo.heap.size, x, none⟩ (.bool (baseT xs k x))) ∧ (W.setCell ⟨wo.heap.size, x, none⟩ (.bool (baseT xs k x))).rowIs wo.heap.size 4 xs.length (fun y => .bool (decide (y < x + 1) && baseT xs k y)) := fun W hW => by
            refine ⟨(HBn.out.trans (hW.mono HBn.out.size)).setCell (Nat.le_refl _) _, ((rowIs_below HRow.out hW).set x _).congr fun y _ => ?_⟩
            by_cases hy : y = x
            · simp [hy]
            · have h2 : decide (y < x + 1) = decide (y < x) := by rw [decide_eq_decide]; omega
              simp [hy, h2]
          have HFin := hidI fin
          clear fin
          by_cases hkx : k = x
          · have hbq : ((k : Int) == x) = true := by simp [hkx]
            have HV : Hid (baseT xs k x = true) := by show _ = _; unfold baseT; simp [hkx]
            have HK := hidI hkx
            clear hkx
            go_wp2_with fail
            have h2 := HFin.out wr (Below.refl _ _)
            rw [HV.out] at h2
            exact ⟨⟨x + 1, by omega, by go_num, h2.2, h2.1⟩, by simp [intOf]; omega⟩
          · have hbq : ((k : Int) == x) = false := by simp; omega
            have HV : Hid (baseT xs k x = callsB xs[k] (x : Int)) := by
              show _ = _
              unfold baseT
              rw [List.getElem?_eq_getElem hlt]
              simp [hkx]
            have HK := hidI hkx
            clear hkx
            go_wp2_with fail
            refine (callsOne_any xs _ _ _ _ _ k _ _ hlt (by omega) (funsMono HF.out (HBx.out.trans (HBn.out.mono (by omega))))).mono ?_
            rintro e w2 ⟨rfl, hb2⟩
            have hc2 := (hb2.cell (p := ⟨wo.heap.size, x, none⟩) hzn).trans hc0
            have hf2 := (hb2.frozen (p := ⟨wo.heap.size, x, none⟩) hzn).trans hf0
            have HB2 := hidI hb2
            clear hb2
            go_wp2_with fail
            have h2 := HFin.out w2 HB2.out
            rw [HV.out] at h2
            exact ⟨⟨x + 1, by omega, by go_num, h2.2, h2.1⟩, by simp [intOf]; omega⟩
        · obtain rfl : x = xs.length := by omega
          have HR2 := hidI (HR.out.below HBn.out)
          have hro := hidI HR2.out.own
          go_wp2_with (at_builtin; refine wpList_append_own_at _ rfl _ _ 103 rfl (w.heap.size + 1) 59 i2 (.slice none 0 0) 1 24 underTab l1 l2 l3 l4 rfl (by decide) _ _ _ rfl (hro.out.alloc _) ⟨wr.heap.size, 0, none⟩ 1 1 [.slice (some ⟨wo.heap.size, 0, none⟩) xs.length xs.length] rfl rfl (cell_one_at _ _ _ _ rfl) (by simp [Value.oneCell']) (by unfold maxLen; omega) (by omega) ?_ ?_)
          · simp; omega
          intro v' w1 hown' hgrow _ hat
          have HS : Hid (TabW w1 (w.heap.size + 1) 59 4 v' xs.length (k + 1) (fun j => if j = k then wo.heap.size else g j) (baseT xs)) := by
            refine (HR2.out.below ((Below.refl _ _).alloc (Nat.le_refl _) (.cells #[.slice (some ⟨wo.heap.size, 0, none⟩) xs.length xs.length] 59))).snoc (r := wo.heap.size) ?_ (by omega) (fun e => ?_) (fun j hj e => ?_) hown' hgrow (by simpa using hat)
            · refine (HRow.out.alloc _).congr fun y hy => ?_
              simp [hy]
            · have := (HR.out.own.lt _ e).2
              omega
            · have := (HR.out.row j hj).lt
              omega
          obtain ⟨g', cap', rfl⟩ := ownsRow_succ' hown'
          have HB3 : Hid (Below (w.heap.size + 1) (w.alloc (.cells #[.slice gp gl gc, .slice fp xs.length fc] 25)) w1) := by
            refine ((HB.out.trans (HBn.out.mono (by omega))).alloc (by omega) _).grown hgrow (by simp; omega) (fun kk e => ?_)
            exact (HR.out.own.lt kk e).1
          clear hown' hgrow hat
          go_wp2_with fail
          exact ⟨⟨k + 1, _, by omega, by go_num, HS.out, HB3.out⟩, by simp [intOf]; omega⟩
    · obtain rfl : k = xs.length := by omega
      go_wp2
      clear hz HA HBx
      go_loopw [8] (fun i wr => ∃ m : Nat, m ≤ xs.length ∧ i = .int .i64 m ∧ TabW wr (w.heap.size + 1) 59 4 (.slice p xs.length c) xs.length xs.length g (fwUp xs.length (baseT xs) m) ∧ Below (w.heap.size + 1) (w.alloc (.cells #[.slice gp gl gc, .slice fp xs.length fc] 25)) wr) (fun i _ => xs.length - (intOf i).toNat)
      case atStart => exact ⟨0, by omega, rfl, HR.out, HB.out⟩
      case round =>
        clear HR HB hwo
        obtain ⟨m, hm, rfl, hR, hb⟩ := hrel
        have HR := hidI hR
        have HB := hidI hb
        clear hR hb
        by_cases hmt : m < xs.length
        · go_wp2
          go_loopw [9] (fun i wr => ∃ k : Nat, k ≤ xs.length ∧ i = .int .i64 k ∧ TabW wr (w.heap.size + 1) 59 4 (.slice p xs.length c) xs.length xs.length g (matUp xs.length (fwUp xs.length (baseT xs) m) m k) ∧ Below (w.heap.size + 1) (w.alloc (.cells #[.slice gp gl gc, .slice fp xs.length fc] 25)) wr) (fun i _ => xs.length - (intOf i).toNat)
          case atStart => exact ⟨0, by omega, rfl, HR.out, HB.out⟩
          case round =>
            clear HR HB
            obtain ⟨k, hk, rfl, hR, hb⟩ := hrel
            have HR := hidI hR
            have HB := hidI hb
            clear hR hb
            by_cases hkt : k < xs.length
            · go_wp2
              go_loopw [10] (fun i wr => ∃ x : Nat, x ≤ xs.length ∧ i = .int .i64 x ∧ TabW wr (w.heap.size + 1) 59 4 (.slice p xs.length c) xs.length xs.length g (rowUp (matUp xs.length (fwUp xs.length (baseT xs) m) m k) m k x) ∧ Below (w.heap.size + 1) (w.alloc (.cells #[.slice gp gl gc, .slice fp xs.length fc] 25)) wr) (fun i _ => xs.length - (intOf i).toNat)
              case atStart => exact ⟨0, by omega, rfl, HR.out, HB.out⟩
              case round =>
                clear HR HB
                obtain ⟨x, hx, rfl, hR, hb⟩ := hrel
                have HB := hidI hb
                have HT : Hid (rowUp (matUp xs.length (fwUp xs.length (baseT xs) m) m k) m k (x + 1) = updT (rowUp (matUp xs.length (fwUp xs.length (baseT xs) m) m k) m k x) m k x) := rfl
                by_cases hxt : x < xs.length
                · generalize rowUp (matUp xs.length (fwUp xs.length (baseT xs) m) m k) m k x = T at hR HT
                  have HR := hidI hR
                  obtain ⟨q, rfl, ck⟩ := hR.cell hkt
                  obtain ⟨q', hq', cm⟩ := hR.cell hmt
                  cases hq'
                  obtain ⟨b1, _⟩ := hR.bit hkt hmt
                  obtain ⟨b2, _⟩ := hR.bit hmt hxt
                  obtain ⟨b3, fz⟩ := hR.bit hkt hxt
                  have hlo := hR.low k hkt
                  clear hR hb
                  cases h1 : T k m
                  · have H1 := hidI h1
                    rw [h1] at b1
                    clear h1
                    go_wp2
                    refine ⟨⟨x + 1, by omega, by go_num, ?_, HB.out⟩, by simp [intOf]; omega⟩
                    rw [HT.out]
                    exact HR.out.congr fun a b _ _ => by simp [updT, H1.out]
                  · cases h2 : T m x
                    · have H1 := hidI h1
                      have H2 := hidI h2
                      rw [h1] at b1
                      rw [h2] at b2
                      clear h1 h2
                      go_wp2
                      refine ⟨⟨x + 1, by omega, by go_num, ?_, HB.out⟩, by simp [intOf]; omega⟩
                      rw [HT.out]
                      exact HR.out.congr fun a b _ _ => by simp [updT, H2.out]
                    · have H1 := hidI h1
                      have H2 := hidI h2
                      rw [h1] at b1
                      rw [h2] at b2
                      clear h1 h2
                      go_wp2
                      refine ⟨⟨x + 1, by omega, by go_num, ?_, HB.out.setCell (by show _ ≤ g k; omega) _⟩, by simp [intOf]; omega⟩
                      rw [HT.out]
                      refine (HR.out.set hkt true).congr fun a b _ _ => ?_
                      unfold updT
                      rw [H1.out, H2.out]
                      by_cases hab : a = k ∧ b = x
                      · rw [if_pos hab, hab.1, hab.2]; simp
                      · rw [if_neg hab]
                        by_cases ha : a = k
                        · have hbx : (b == x) = false := by simp; exact fun e => hab ⟨ha, e⟩
                          rw [hbx]; simp
                        · have hak : (a == k) = false := by simpa using ha
                          rw [hak]; simp
                · obtain rfl : x = xs.length := by omega
                  have HR := hidI hR
                  clear hR hb
                  go_wp2
                  exact ⟨⟨k + 1, by omega, by go_num, HR.out, HB.out⟩, by simp [intOf]; omega⟩
            · obtain rfl : k = xs.length := by omega
              go_wp2
              exact ⟨⟨m + 1, by omega, by go_num, HR.out, HB.out⟩, by simp [intOf]; omega⟩
        · obtain rfl : m = xs.length := by omega
          go_wp2
          go_ret
          exact ⟨⟨p, c, g, rfl, HR.out⟩, Below.trans ((Below.refl _ _).alloc (Nat.le_refl _) _) (HB.out.mono (by omega))⟩
end Go.Proofs.YtdjamkinijhjoaaDoor
namespace Go.Proofs.YtdjamkinijhjoaaDoor
open Go.RowKit

theorem infoBool4 : (Tryd.prog.info? 4).map (fun i => (i.zero, i.size, i.bytes)) = some (some (.bool false), 1, 1) := by kernel_rfl
theorem underBools4 : Tryd.prog.underlying 59 = some (.slice 4) := by kernel_rfl

set_option maxHeartbeats 1000000 in
theorem reach_any (gs : List (List Int)) (gp : Option Addr) (gc k : Nat) (w : World) (hl : gs.length ≤ 10) (hk : k < gs.length) (hS : SliceAt w 1 (IntsR w) gp gs) (hE : ∀ k (h : k < gs.length), ∀ x ∈ gs[k], 0 ≤ x ∧ x < (gs.length : Int)) :
    Calls Tryd.prog 45 #[.slice gp gs.length gc, .int .i64 k] w fun e w' => ∃ (T : Nat) (had : Nat → Bool), e = .returned (.slice (some ⟨T, 0, none⟩) gs.length gs.length) ∧ w'.rowIs T 4 gs.length (fun j => .bool (had j)) ∧ w.heap.size ≤ T ∧ (∀ j, j < gs.length → (had j = true ↔ Path gs.length (edgeL gs) k j)) ∧ Below w.heap.size w w' := by
  obtain ⟨i1, k1, k2, k3, k4⟩ := info_parts infoBool4
  have hmk := run_make_row 59 4 i1 (.bool false) underBools4 k1 k2 k3 rfl .i64 .i64 gs.length (by rw [k4]; omega) (by omega)
  have HS := hidI hS
  have HE := hidI hE
  clear hS hE
  go_enter Tryd.func45, Tryd.ntmps45
  go_wp2_with fail
  refine (visit_any gs gp gc w hl HS.out HE.out (w.heap.size + 1) (w.heap.size + 1 + 1) w.heap.size (w.heap.size + 1 + 1 + 1) (by omega) (by omega) (by omega) (by omega) (leftN gs.length (fun _ => false) + 1) (fun _ => false) _ k (by omega) hk ?_ ?_ ?_ ?_ ?_).mono ?_
  · repeat (first | with_reducible exact Below.refl _ _ | with_reducible exact HB3.out | with_reducible refine Below.drew ?_ | with_reducible refine below_drewN ?_ _ | with_reducible refine Below.setCell ?_ ?_ _ | with_reducible refine Below.alloc ?_ ?_ _ | with_reducible exact HB2.out | with_reducible exact HB1.out | with_reducible refine Below.trans ?_ (Below.mono hb3 ?_) | with_reducible refine Below.trans ?_ (Below.mono hb5 ?_) | with_reducible refine Below.trans ?_ (Below.mono hb4 ?_) | omega | (simp; omega) | simp)
  · have hM := World.rowIs_made (w.alloc (.cells #[.slice gp gs.length gc] 94)) (.bool false) gs.length 4
    have e : (w.alloc (.cells #[.slice gp gs.length gc] 94)).heap.size = w.heap.size + 1 := by simp
    rw [e] at hM
    exact (hM.alloc _).alloc _
  · exact (blk (heap_step (heap_at (by simp)))).1 0
  · exact (blk (heap_step (heap_step (heap_step (heap_here w _))))).1 0
  · exact (blk (heap_at (by simp))).1 0
  rintro e w2 ⟨rfl, hg, had, hr, hv⟩
  have hH := (blk ((hg.block (w.heap.size + 1 + 1) (by simp) (by simp)).trans (heap_step (heap_at (by simp))))).1
  have HG := hidI hg
  clear hg
  go_wp2
  refine bodyPost_ret (v := .slice (some ⟨w.heap.size + 1, 0, none⟩) gs.length gs.length) (results_tmp (t := 4) rfl _ _ _) rfl ⟨w.heap.size + 1, had, rfl, hr, by omega, fun j hj => hv.all hk hj, ?_⟩
  refine Below.grown ?_ HG.out (by simp; omega) (fun b e => by cases e; omega)
  repeat (first | with_reducible exact Below.refl _ _ | with_reducible exact HB3.out | with_reducible refine Below.drew ?_ | with_reducible refine below_drewN ?_ _ | with_reducible refine Below.setCell ?_ ?_ _ | with_reducible refine Below.alloc ?_ ?_ _ | with_reducible exact HB2.out | with_reducible exact HB1.out | with_reducible refine Below.trans ?_ (Below.mono hb3 ?_) | with_reducible refine Below.trans ?_ (Below.mono hb5 ?_) | with_reducible refine Below.trans ?_ (Below.mono hb4 ?_) | omega | (simp; omega) | simp)
end Go.Proofs.YtdjamkinijhjoaaDoor
namespace Go.Proofs.YtdjamkinijhjoaaDoor
open Go.RowKit

theorem edge_iff {xs : List FunL} {a b : Nat} (ha : a < xs.length) (hb : b < xs.length) : edgeL (graphTo xs xs.length) a b ↔ callsB xs[a] (b : Int) = true := by
  have hg : (graphTo xs xs.length)[a]? = some (rowTo xs[a] xs.length) := by
    unfold graphTo
    simp [ha]
  unfold edgeL
  rw [hg]
  constructor
  · rintro ⟨r, hr, hm⟩
    cases hr
    exact (rowTo_iff.1 hm).2
  · intro h
    exact ⟨_, rfl, rowTo_iff.2 ⟨⟨by omega, by omega⟩, h⟩⟩
theorem table_path (xs : List FunL) {a b : Nat} (ha : a < xs.length) (hb : b < xs.length) : tableU xs a b = true ↔ Path xs.length (edgeL (graphTo xs xs.length)) a b := by
  unfold tableU
  rw [fwUp_eq _ _ _ _ _ (Nat.le_refl _) ha hb]
  constructor
  · refine viaT_path (fun a b ha hb h => ?_) _ _ _ (Nat.le_refl _) ha hb
    unfold baseT at h
    rw [List.getElem?_eq_getElem ha, Bool.or_eq_true] at h
    rcases h with h | h
    · have : a = b := by simpa using h
      subst this
      exact .refl _
    · exact .step (.refl _) ((edge_iff ha hb).2 h) hb
  · intro h
    refine (path_viaT (fun a _ => ?_) (fun a b ha hb h => ?_) ha h).2
    · unfold baseT; simp
    · unfold baseT
      rw [List.getElem?_eq_getElem ha, Bool.or_eq_true]
      exact .inr ((edge_iff ha hb).1 h)
/-- what main reaches -/
def reachL (xs : List FunL) (m : Nat) : List Bool := (List.range xs.length).map fun j => tableU xs m j
theorem bools_row {w : World} {b : Nat} {t : TypeId} {n : Nat} {f : Nat → Bool} (h : w.rowIs b t n (fun j => .bool (f j))) : SliceAt w 1 BoolR (some ⟨b, 0, none⟩) ((List.range n).map f) := by
  refine .inr ⟨b, 0, rfl, fun i hi => ?_⟩
  have hi2 : i < n := by simpa using hi
  refine ⟨[.bool (f i)], rfl, fun j hj => ?_, by simp [BoolR]⟩
  obtain rfl : j = 0 := by omega
  simp only [Nat.zero_add, Nat.mul_one, Nat.add_zero, List.getElem?_cons_zero]
  exact h.cell hi2
theorem rows_below {w w' : World} {p : Option Addr} {xs : List (List Int)} (h : SliceAt w 1 (IntsR w) p xs) (hb : Below w.heap.size w w') : SliceAt w' 1 (IntsR w') p xs :=
  h.mono hb (by omega) fun _ _ h => h.below hb
theorem bools_below {w w' : World} {p : Option Addr} {xs : List Bool} (h : SliceAt w 1 BoolR p xs) (hb : Below w.heap.size w w') : SliceAt w' 1 BoolR p xs :=
  h.mono hb (by omega) fun _ _ h => h
theorem graphTo_all (xs : List FunL) : (graphTo xs xs.length).length = xs.length := by unfold graphTo; simp
theorem graphTo_in (xs : List FunL) : ∀ k (h : k < (graphTo xs xs.length).length), ∀ x ∈ (graphTo xs xs.length)[k], 0 ≤ x ∧ x < ((graphTo xs xs.length).length : Int) := by
  intro k h x hx
  rw [graphTo_all]
  unfold graphTo at hx
  simp only [List.getElem_map, List.take_length] at hx
  exact (rowTo_iff.1 hx).1
theorem mainI_lt {xs : List FunL} {m : Nat} (h : mainI xs = some m) : m < xs.length := by
  unfold mainI at h
  exact List.mem_range.1 (List.mem_of_find?_eq_some h)

set_option maxRecDepth 100000 in
set_option maxHeartbeats 1000000 in
theorem rc_bad (u : UniL) (gp fp : Option Addr) (gc fc : Nat) (w : World) (hgl : u.globals.length * 48 ≤ 140737488351232) (hG : SliceAt w 3 (GloR w) gp u.globals) (hfl : u.funcs.length * 56 ≤ 140737488351232) (hF : SliceAt w 4 (FunR w) fp u.funcs) (hw0 : Ways w) (h : (chk u).1 ≠ 0) :
    Calls Tryd.prog 18 #[.agg #[.slice gp u.globals.length gc, .slice fp u.funcs.length fc]] w fun e w' => e = .returned (.tuple #[.slice none 0 0, .agg #[.int .i64 (chk u).1, .int .i64 (chk u).2]]) ∧ Below w.heap.size w w' := by
  have HG := hidI hG
  have HF := hidI hF
  have HW := hidI hw0
  have HH := hidI h
  have hne : ((chk u).1 == 0 && (chk u).2 == 0) = false := by simp [h]
  have hq : ∀ w, (binOp .neq 28 (.agg #[.int .i64 (chk u).1, .int .i64 (chk u).2]) (.agg #[.int .i64 0, .int .i64 0])).run Tryd.prog w = .ok (.bool true) w := fun w => by rw [run_neFault, hne]; rfl
  clear hG hF hw0 h hne
  go_enter Tryd.func18, Tryd.ntmps18
  go_wp2_with fail
  refine (gr_bad u _ _ _ _ _ hgl (glosMono HG.out (by repeat (first | with_reducible exact Below.refl _ _ | with_reducible exact HB3.out | with_reducible refine Below.drew ?_ | with_reducible refine below_drewN ?_ _ | with_reducible refine Below.setCell ?_ ?_ _ | with_reducible refine Below.alloc ?_ ?_ _ | with_reducible exact HB2.out | with_reducible exact HB1.out | with_reducible refine Below.trans ?_ (Below.mono hb3 ?_) | with_reducible refine Below.trans ?_ (Below.mono hb5 ?_) | with_reducible refine Below.trans ?_ (Below.mono hb4 ?_) | omega | (simp; omega) | simp))) hfl (funsMono HF.out (by repeat (first | with_reducible exact Below.refl _ _ | with_reducible exact HB3.out | with_reducible refine Below.drew ?_ | with_reducible refine below_drewN ?_ _ | with_reducible refine Below.setCell ?_ ?_ _ | with_reducible refine Below.alloc ?_ ?_ _ | with_reducible exact HB2.out | with_reducible exact HB1.out | with_reducible refine Below.trans ?_ (Below.mono hb3 ?_) | with_reducible refine Below.trans ?_ (Below.mono hb5 ?_) | with_reducible refine Below.trans ?_ (Below.mono hb4 ?_) | omega | (simp; omega) | simp))) (HW.out.below (by repeat (first | with_reducible exact Below.refl _ _ | with_reducible exact HB3.out | with_reducible refine Below.drew ?_ | with_reducible refine below_drewN ?_ _ | with_reducible refine Below.setCell ?_ ?_ _ | with_reducible refine Below.alloc ?_ ?_ _ | with_reducible exact HB2.out | with_reducible exact HB1.out | with_reducible refine Below.trans ?_ (Below.mono hb3 ?_) | with_reducible refine Below.trans ?_ (Below.mono hb5 ?_) | with_reducible refine Below.trans ?_ (Below.mono hb4 ?_) | omega | (simp; omega) | simp))) HH.out).mono ?_
  rintro e w2 ⟨rfl, hb2⟩
  have HB1 : Hid (Below w.heap.size w w2) := Below.trans (by repeat (first | with_reducible exact Below.refl _ _ | with_reducible exact HB3.out | with_reducible refine Below.drew ?_ | with_reducible refine below_drewN ?_ _ | with_reducible refine Below.setCell ?_ ?_ _ | with_reducible refine Below.alloc ?_ ?_ _ | with_reducible exact HB2.out | with_reducible exact HB1.out | with_reducible refine Below.trans ?_ (Below.mono hb3 ?_) | with_reducible refine Below.trans ?_ (Below.mono hb5 ?_) | with_reducible refine Below.trans ?_ (Below.mono hb4 ?_) | omega | (simp; omega) | simp)) (hb2.mono (by simp; omega))
  have hR := heap_below hb2 (k := w.heap.size + 1) (by simp) (heap_at (w := w.alloc (.cells #[.slice gp u.globals.length gc, .slice fp u.funcs.length fc] 25)) (o := .cells #[.int .i64 0, .int .i64 0] 28) (by simp))
  obtain ⟨hcc, hcf⟩ := blk hR
  have hz : w.heap.size + 1 < w2.heap.size := by have := hb2.size; simp at this; omega
  clear hb2
  go_wp2_with fail
  have HX := hidI (res_one_drew hR)
  clear hR
  go_region
  all_goals go_wp2
  all_goals
    refine bodyPost_ret (v := .tuple #[.slice none 0 0, .agg #[.int .i64 (chk u).1, .int .i64 (chk u).2]]) ?_ rfl ⟨rfl, ?_⟩
    · have hx := HX.out
      simp [results, Tryd.results18, go_sem, hx]
    · repeat (first | with_reducible exact Below.refl _ _ | with_reducible exact HB3.out | with_reducible refine Below.drew ?_ | with_reducible refine below_drewN ?_ _ | with_reducible refine Below.setCell ?_ ?_ _ | with_reducible refine Below.alloc ?_ ?_ _ | with_reducible exact HB2.out | with_reducible exact HB1.out | with_reducible refine Below.trans ?_ (Below.mono hb3 ?_) | with_reducible refine Below.trans ?_ (Below.mono hb5 ?_) | with_reducible refine Below.trans ?_ (Below.mono hb4 ?_) | omega | (simp; omega) | simp)

set_option maxRecDepth 100000 in
set_option maxHeartbeats 1000000 in
theorem rc_ok (u : UniL) (gp fp : Option Addr) (gc fc m : Nat) (w : World) (hgl : u.globals.length * 48 ≤ 140737488351232) (hG : SliceAt w 3 (GloR w) gp u.globals) (hfl : u.funcs.length * 56 ≤ 140737488351232) (hF : SliceAt w 4 (FunR w) fp u.funcs) (hw0 : Ways w) (h : (chk u).1 = 0) (hm : mainI u.funcs = some m) :
    Calls Tryd.prog 18 #[.agg #[.slice gp u.globals.length gc, .slice fp u.funcs.length fc]] w fun e w' => ∃ T, e = .returned (.tuple #[.slice (some ⟨T, 0, none⟩) u.funcs.length u.funcs.length, .agg #[.int .i64 0, .int .i64 0]]) ∧ SliceAt w' 1 BoolR (some ⟨T, 0, none⟩) (reachL u.funcs m) ∧ Below w.heap.size w w' := by
  have HG := hidI hG
  have HF := hidI hF
  have HW := hidI hw0
  have HH := hidI h
  have hnf := (chk_ok h).2.nf
  have hml := mainI_lt hm
  have hq : ∀ w, (binOp .neq 28 (.agg #[.int .i64 0, .int .i64 0]) (.agg #[.int .i64 0, .int .i64 0])).run Tryd.prog w = .ok (.bool false) w := fun w => by rw [run_neFault]; rfl
  clear hG hF hw0 h
  go_enter Tryd.func18, Tryd.ntmps18
  go_wp2_with fail
  refine (gr_ok u _ _ _ _ _ hgl (glosMono HG.out (by repeat (first | with_reducible exact Below.refl _ _ | with_reducible exact HB3.out | with_reducible refine Below.drew ?_ | with_reducible refine below_drewN ?_ _ | with_reducible refine Below.setCell ?_ ?_ _ | with_reducible refine Below.alloc ?_ ?_ _ | with_reducible exact HB2.out | with_reducible exact HB1.out | with_reducible refine Below.trans ?_ (Below.mono hb3 ?_) | with_reducible refine Below.trans ?_ (Below.mono hb5 ?_) | with_reducible refine Below.trans ?_ (Below.mono hb4 ?_) | omega | (simp; omega) | simp))) hfl (funsMono HF.out (by repeat (first | with_reducible exact Below.refl _ _ | with_reducible exact HB3.out | with_reducible refine Below.drew ?_ | with_reducible refine below_drewN ?_ _ | with_reducible refine Below.setCell ?_ ?_ _ | with_reducible refine Below.alloc ?_ ?_ _ | with_reducible exact HB2.out | with_reducible exact HB1.out | with_reducible refine Below.trans ?_ (Below.mono hb3 ?_) | with_reducible refine Below.trans ?_ (Below.mono hb5 ?_) | with_reducible refine Below.trans ?_ (Below.mono hb4 ?_) | omega | (simp; omega) | simp))) (HW.out.below (by repeat (first | with_reducible exact Below.refl _ _ | with_reducible exact HB3.out | with_reducible refine Below.drew ?_ | with_reducible refine below_drewN ?_ _ | with_reducible refine Below.setCell ?_ ?_ _ | with_reducible refine Below.alloc ?_ ?_ _ | with_reducible exact HB2.out | with_reducible exact HB1.out | with_reducible refine Below.trans ?_ (Below.mono hb3 ?_) | with_reducible refine Below.trans ?_ (Below.mono hb5 ?_) | with_reducible refine Below.trans ?_ (Below.mono hb4 ?_) | omega | (simp; omega) | simp))) HH.out).mono ?_
  rintro e w2 ⟨T, rfl, hS2, hb2⟩
  have HB1 : Hid (Below w.heap.size w w2) := Below.trans (by repeat (first | with_reducible exact Below.refl _ _ | with_reducible exact HB3.out | with_reducible refine Below.drew ?_ | with_reducible refine below_drewN ?_ _ | with_reducible refine Below.setCell ?_ ?_ _ | with_reducible refine Below.alloc ?_ ?_ _ | with_reducible exact HB2.out | with_reducible exact HB1.out | with_reducible refine Below.trans ?_ (Below.mono hb3 ?_) | with_reducible refine Below.trans ?_ (Below.mono hb5 ?_) | with_reducible refine Below.trans ?_ (Below.mono hb4 ?_) | omega | (simp; omega) | simp)) (hb2.mono (by simp; omega))
  have hR := heap_below hb2 (k := w.heap.size + 1) (by simp) (heap_at (w := w.alloc (.cells #[.slice gp u.globals.length gc, .slice fp u.funcs.length fc] 25)) (o := .cells #[.int .i64 0, .int .i64 0] 28) (by simp))
  obtain ⟨hcc, hcf⟩ := blk hR
  have hz : w.heap.size + 1 < w2.heap.size := by have := hb2.size; simp at this; omega
  have hc0 := fun o => (blk (heap_below hb2 (k := w.heap.size) (by simp; omega) (heap_step (heap_here w _)))).1 o
  have hz2 : w.heap.size < w2.heap.size := by omega
  clear hb2
  have HR := hidI hR
  have HS2 := hidI hS2
  clear hR hS2
  go_wp2_with fail
  have cm := fun W h => cmain_any u.funcs gp fp u.globals.length gc fc W (by omega) h
  rw [hm] at cm
  refine (cm _ (funsMono HF.out (by repeat (first | with_reducible exact Below.refl _ _ | with_reducible exact HB3.out | with_reducible refine Below.drew ?_ | with_reducible refine below_drewN ?_ _ | with_reducible refine Below.setCell ?_ ?_ _ | with_reducible refine Below.alloc ?_ ?_ _ | with_reducible exact HB2.out | with_reducible exact HB1.out | with_reducible refine Below.trans ?_ (Below.mono hb3 ?_) | with_reducible refine Below.trans ?_ (Below.mono hb5 ?_) | with_reducible refine Below.trans ?_ (Below.mono hb4 ?_) | omega | (simp; omega) | simp)))).mono ?_
  rintro e w3 ⟨rfl, hb3⟩
  have hb23 : Below w2.heap.size w2 w3 := ((Below.refl _ _).alloc (Nat.le_refl _) _).trans (hb3.mono (by simp))
  have HB2 : Hid (Below w.heap.size w w3) := HB1.out.trans (hb23.mono (by omega))
  have HR3 := hidI (heap_below hb23 (k := w.heap.size + 1) hz HR.out)
  have hz3 : w.heap.size + 1 < w3.heap.size := by have := hb23.size; omega
  have hr := reach_any (graphTo u.funcs u.funcs.length) (some ⟨T, 0, none⟩) u.funcs.length m w3 (by rw [graphTo_all]; exact hnf) (by rw [graphTo_all]; exact hml) (rows_below HS2.out hb23) (graphTo_in _)
  rw [graphTo_all] at hr
  clear hb3
  go_wp2_with (refine hr.mono ?_; rintro e w4 ⟨T2, had, rfl, hr4, hT2, hp, hb4⟩; have hR4 := heap_below hb4 (k := w.heap.size + 1) hz3 HR3.out; obtain ⟨hcc4, hcf4⟩ := blk hR4; have hz4 : w.heap.size + 1 < w4.heap.size := (Array.getElem?_eq_some_iff.1 hR4).1)
  rw [setCell_same hR4 rfl, setCell_same hR4 rfl]
  refine bodyPost_ret (v := .tuple #[.slice (some ⟨T2, 0, none⟩) u.funcs.length u.funcs.length, .agg #[.int .i64 0, .int .i64 0]]) ?_ rfl ⟨T2, rfl, ?_, ?_⟩
  · simp [results, Tryd.results18, go_sem, hcc4]
  · have e : reachL u.funcs m = (List.range u.funcs.length).map had := by
      unfold reachL
      refine List.map_congr_left fun j hj => ?_
      have hj2 := List.mem_range.1 hj
      rw [Bool.eq_iff_iff, hp j hj2, table_path _ hml hj2]
    rw [e]
    exact bools_row hr4
  · exact HB2.out.trans (hb4.mono (by omega))
end Go.Proofs.YtdjamkinijhjoaaDoor
namespace Go.Proofs.YtdjamkinijhjoaaDoor
open Go.RowKit

/-- a table that tells who reaches whom, by whatever edges -/
structure ReachT (n : Nat) (E : Nat → Nat → Bool) (t : Tab) : Prop where
  refl : ∀ a, a < n → t a a = true
  trans : ∀ a b c, a < n → b < n → c < n → t a b = true → t b c = true → t a c = true
  edge : ∀ a b, a < n → b < n → E a b = true → t a b = true

/-- one of a function's ring? -/
def sameR (t : Tab) (k x : Nat) : Bool := t k x && t x k
/-- the least one of a function's ring -/
def ringN (n : Nat) (t : Tab) (k : Nat) : Nat := ((List.range n).find? fun x => sameR t k x).getD 0
def ringsL (n : Nat) (t : Tab) : List Int := (List.range n).map fun k => (ringN n t k : Int)
theorem ringsL_len (n : Nat) (t : Tab) : (ringsL n t).length = n := by simp [ringsL]
theorem ringsL_get {n : Nat} {t : Tab} {k : Nat} (h : k < (ringsL n t).length) : (ringsL n t)[k] = (ringN n t k : Int) := by simp [ringsL]

theorem find_least {p : Nat → Bool} {n k : Nat} (h : (List.range n).find? p = some k) : k < n ∧ p k = true ∧ ∀ j, j < k → p j = false := by
  have h1 := List.find?_some h
  have h2 := List.mem_range.1 (List.mem_of_find?_eq_some h)
  refine ⟨h2, h1, fun j hj => ?_⟩
  rw [List.find?_eq_some_iff_getElem] at h
  obtain ⟨_, i, hi, hik, hlt⟩ := h
  have hi2 : i < n := by simpa using hi
  have e : i = k := by simpa using hik
  subst e
  have := hlt j hj
  simpa using this
theorem find_hit {p : Nat → Bool} {n k : Nat} (hk : k < n) (h1 : p k = true) (h2 : ∀ j, j < k → p j = false) : (List.range n).find? p = some k := by
  cases h : (List.range n).find? p with
  | none =>
    have := List.find?_eq_none.1 h k (List.mem_range.2 hk)
    exact absurd h1 this
  | some j =>
    obtain ⟨a, b, c⟩ := find_least h
    rcases Nat.lt_trichotomy j k with g | g | g
    · rw [h2 j g] at b; cases b
    · rw [g]
    · rw [c k g] at h1; cases h1
theorem find_miss {p : Nat → Bool} {n : Nat} (h : ∀ j, j < n → p j = false) : (List.range n).find? p = none := by
  rw [List.find?_eq_none]
  intro x hx
  rw [h x (List.mem_range.1 hx)]
  simp
theorem ringN_hit {n : Nat} {t : Tab} {k x : Nat} (hx : x < n) (h1 : sameR t k x = true) (h2 : ∀ j, j < x → sameR t k j = false) : ringN n t k = x := by
  unfold ringN
  rw [find_hit hx h1 h2]
  rfl
theorem ringN_spec {n : Nat} {t : Tab} {k : Nat} (hk : k < n) (hr : t k k = true) : ringN n t k < n ∧ ringN n t k ≤ k ∧ sameR t k (ringN n t k) = true ∧ ∀ j, j < ringN n t k → sameR t k j = false := by
  have hs : sameR t k k = true := by unfold sameR; rw [hr]; rfl
  cases h : (List.range n).find? fun x => sameR t k x with
  | none =>
    have := List.find?_eq_none.1 h k (List.mem_range.2 hk)
    exact absurd hs this
  | some j =>
    obtain ⟨a, b, c⟩ := find_least h
    have e : ringN n t k = j := by unfold ringN; rw [h]; rfl
    rw [e]
    refine ⟨a, ?_, b, c⟩
    rcases Nat.lt_or_ge k j with g | g
    · rw [c k g] at hs; cases hs
    · exact g
theorem ringN_congr {n : Nat} {t s : Tab} {k : Nat} (hk : k < n) (h : ∀ a b, a < n → b < n → t a b = s a b) : ringN n t k = ringN n s k := by
  have e : (List.range n).find? (fun x => sameR t k x) = (List.range n).find? fun x => sameR s k x := by
    cases h1 : (List.range n).find? fun x => sameR s k x with
    | none =>
      refine find_miss fun j hj => ?_
      have := List.find?_eq_none.1 h1 j (List.mem_range.2 hj)
      unfold sameR at this ⊢
      rw [h _ _ hk hj, h _ _ hj hk]
      simpa using this
    | some j =>
      obtain ⟨a, b, c⟩ := find_least h1
      refine find_hit a ?_ fun i hi => ?_
      · unfold sameR at b ⊢; rw [h _ _ hk a, h _ _ a hk]; exact b
      · have := c i hi
        unfold sameR at this ⊢
        rw [h _ _ hk (by omega), h _ _ (by omega) hk]
        exact this
  unfold ringN
  rw [e]
/-- the least one that is not below x -/
def ringFrom (n : Nat) (t : Tab) (k x : Nat) : Nat := ((List.range n).find? fun y => decide (x ≤ y) && sameR t k y).getD 0
theorem ringFrom_end (n : Nat) (t : Tab) (k : Nat) : ringFrom n t k n = 0 := by
  unfold ringFrom
  rw [find_miss fun j hj => ?_]
  · rfl
  · have : decide (n ≤ j) = false := decide_eq_false (by omega)
    rw [this]; rfl
theorem ringFrom_zero (n : Nat) (t : Tab) (k : Nat) : ringFrom n t k 0 = ringN n t k := by
  unfold ringFrom ringN
  simp
theorem ringFrom_yes {n : Nat} {t : Tab} {k x : Nat} (hx : x < n) (h : sameR t k x = true) : ringFrom n t k x = x := by
  unfold ringFrom
  rw [find_hit hx (by simp [h]) (fun j hj => ?_)]
  · rfl
  · have : decide (x ≤ j) = false := decide_eq_false (by omega)
    rw [this]; rfl
theorem ringFrom_no {n : Nat} {t : Tab} {k x : Nat} (h : sameR t k x = false) : ringFrom n t k x = ringFrom n t k (x + 1) := by
  unfold ringFrom
  have e : (fun y => decide (x ≤ y) && sameR t k y) = fun y => decide (x + 1 ≤ y) && sameR t k y := by
    funext y
    by_cases hy : y = x
    · subst hy; simp [h]
    · have : decide (x ≤ y) = decide (x + 1 ≤ y) := by rw [decide_eq_decide]; omega
      rw [this]
  rw [e]

theorem sameR_symm {t : Tab} {a b : Nat} (h : sameR t a b = true) : sameR t b a = true := by
  unfold sameR at h ⊢
  rw [Bool.and_comm]; exact h
theorem ReachT.same_trans {n : Nat} {E : Nat → Nat → Bool} {t : Tab} (h : ReachT n E t) {a b c : Nat} (ha : a < n) (hb : b < n) (hc : c < n) (h1 : sameR t a b = true) (h2 : sameR t b c = true) : sameR t a c = true := by
  unfold sameR at h1 h2 ⊢
  rw [Bool.and_eq_true] at h1 h2 ⊢
  exact ⟨h.trans _ _ _ ha hb hc h1.1 h2.1, h.trans _ _ _ hc hb ha h2.2 h1.2⟩
theorem ReachT.ring_eq {n : Nat} {E : Nat → Nat → Bool} {t : Tab} (h : ReachT n E t) {a b : Nat} (ha : a < n) (hb : b < n) : ringN n t a = ringN n t b ↔ sameR t a b = true := by
  obtain ⟨a1, a2, a3, a4⟩ := ringN_spec ha (h.refl a ha)
  obtain ⟨b1, b2, b3, b4⟩ := ringN_spec hb (h.refl b hb)
  constructor
  · intro e
    rw [e] at a3
    exact h.same_trans ha b1 hb a3 (sameR_symm b3)
  · intro hs
    refine ringN_hit b1 (h.same_trans ha hb b1 hs b3) fun j hj => ?_
    cases hj2 : sameR t a j with
    | false => rfl
    | true =>
      have := h.same_trans hb ha (by omega) (sameR_symm hs) hj2
      rw [b4 j hj] at this
      cases this
theorem ReachT.ring_ring {n : Nat} {E : Nat → Nat → Bool} {t : Tab} (h : ReachT n E t) {a : Nat} (ha : a < n) : ringN n t (ringN n t a) = ringN n t a := by
  obtain ⟨a1, a2, a3, a4⟩ := ringN_spec ha (h.refl a ha)
  exact (h.ring_eq a1 ha).2 (sameR_symm a3)

/-- is it not told yet, and all that it calls, but of its ring? -/
def readyB (n : Nat) (E : Nat → Nat → Bool) (r : Nat → Nat) (told : Nat → Bool) (k : Nat) : Bool := !told k && (List.range n).all fun x => !(E k x && !told x && r x != r k)
def nextO (n : Nat) (E : Nat → Nat → Bool) (r : Nat → Nat) (o : List Nat) : Option Nat := (List.range n).find? (readyB n E r fun x => o.contains x)
/-- behind m turns -/
def orderN (n : Nat) (E : Nat → Nat → Bool) (r : Nat → Nat) : Nat → List Nat
  | 0 => []
  | m + 1 => match nextO n E r (orderN n E r m) with
    | some k => orderN n E r m ++ [k]
    | none => orderN n E r m

theorem count_less {p q : Nat → Bool} {k n : Nat} (h : ∀ x, x < n → p x = true → q x = true) (hk : k < n) (h1 : p k = false) (h2 : q k = true) : ((List.range n).filter p).length < ((List.range n).filter q).length :=
  filter_less (k := k) _ (fun x hx => h x (List.mem_range.1 hx)) (List.mem_range.2 hk) h1 h2
theorem readyB_true {n : Nat} {E : Nat → Nat → Bool} {r : Nat → Nat} {told : Nat → Bool} {k : Nat} : readyB n E r told k = true ↔ told k = false ∧ ∀ x, x < n → E k x = true → told x = false → r x = r k := by
  unfold readyB
  rw [Bool.and_eq_true, List.all_eq_true]
  constructor
  · rintro ⟨h1, h2⟩
    refine ⟨by simpa using h1, fun x hx he ht => ?_⟩
    have := h2 x (List.mem_range.2 hx)
    rw [he, ht] at this
    simpa using this
  · rintro ⟨h1, h2⟩
    refine ⟨by simp [h1], fun x hx => ?_⟩
    have := h2 x (List.mem_range.1 hx)
    cases he : E k x
    · rfl
    · cases ht : told x
      · simp [this he ht]
      · rfl
/-- while some one is untold, some one is ready -/
theorem ReachT.some_ready {n : Nat} {E : Nat → Nat → Bool} {t : Tab} (h : ReachT n E t) (told : Nat → Bool) : ∀ (c k : Nat), ((List.range n).filter (t k)).length ≤ c → k < n → told k = false → ∃ j, j < n ∧ readyB n E (ringN n t) told j = true := by
  intro c
  induction c with
  | zero =>
    intro k hc hk _
    have : k ∈ (List.range n).filter (t k) := List.mem_filter.2 ⟨List.mem_range.2 hk, h.refl k hk⟩
    have := List.length_pos_of_mem this
    omega
  | succ c ih =>
    intro k hc hk ht
    by_cases hx : ∃ x, x < n ∧ E k x = true ∧ told x = false ∧ ringN n t x ≠ ringN n t k
    · obtain ⟨x, hxn, he, htx, hne⟩ := hx
      have hkx := h.edge k x hk hxn he
      have hxk : t x k = false := by
        cases hh : t x k with
        | false => rfl
        | true => exact absurd ((h.ring_eq hxn hk).2 (by unfold sameR; rw [hkx, hh]; rfl)) hne
      refine ih x ?_ hxn htx
      have := count_less (p := t x) (q := t k) (k := k) (n := n) (fun y hy hxy => h.trans _ _ _ hk hxn hy hkx hxy) hk hxk (h.refl k hk)
      omega
    · refine ⟨k, hk, readyB_true.2 ⟨ht, fun x hxn he htx => ?_⟩⟩
      rcases Decidable.em (ringN n t x = ringN n t k) with e | e
      · exact e
      · exact absurd ⟨x, hxn, he, htx, e⟩ hx
/-- what m turns leave -/
structure OrderOk (n : Nat) (E : Nat → Nat → Bool) (r : Nat → Nat) (o : List Nat) : Prop where
  low : ∀ k ∈ o, k < n
  nodup : o.Nodup
  ahead : ∀ i (hi : i < o.length) x, x < n → E o[i] x = true → r x ≠ r o[i] → x ∈ o.take i
theorem nodup_len {n : Nat} {o : List Nat} (h1 : ∀ k ∈ o, k < n) (h2 : o.Nodup) : o.length ≤ n := by
  have := h2.length_le_of_subset (l₂ := List.range n) (fun x hx => List.mem_range.2 (h1 x hx))
  simpa using this
theorem untold {n : Nat} {o : List Nat} (h : o.length < n) : ∃ k, k < n ∧ k ∉ o := by
  by_cases hh : ∀ k, k < n → k ∈ o
  · have := (List.nodup_range (n := n)).length_le_of_subset (l₂ := o) (fun x hx => hh x (List.mem_range.1 hx))
    simp at this
    omega
  · simp only [Classical.not_forall] at hh
    obtain ⟨k, hk, hn⟩ := hh
    exact ⟨k, hk, hn⟩
theorem OrderOk.nil (n : Nat) (E : Nat → Nat → Bool) (r : Nat → Nat) : OrderOk n E r [] := ⟨by simp, by simp, fun i hi => by simp at hi⟩
theorem OrderOk.snoc {n : Nat} {E : Nat → Nat → Bool} {r : Nat → Nat} {o : List Nat} (h : OrderOk n E r o) {k : Nat} (hk : k < n) (hr : readyB n E r (fun x => o.contains x) k = true) : OrderOk n E r (o ++ [k]) := by
  obtain ⟨h1, h2⟩ := readyB_true.1 hr
  have hn : k ∉ o := by simpa using h1
  refine ⟨fun x hx => ?_, ?_, fun i hi x hx he hne => ?_⟩
  · rcases List.mem_append.1 hx with g | g
    · exact h.low x g
    · rw [List.mem_singleton.1 g]; exact hk
  · rw [List.nodup_append]
    refine ⟨h.nodup, by simp, fun a ha b hb e => ?_⟩
    rw [List.mem_singleton.1 hb] at e
    exact hn (e ▸ ha)
  · rw [List.length_append, List.length_singleton] at hi
    rcases Nat.lt_or_ge i o.length with g | g
    · rw [List.getElem_append_left g] at he hne
      rw [List.take_append_of_le_length (by omega)]
      exact h.ahead i g x hx he hne
    · obtain rfl : i = o.length := by omega
      have e : (o ++ [k])[o.length] = k := by simp
      rw [e] at he hne
      rw [List.take_left]
      cases hc : o.contains x with
      | false => exact absurd (h2 x hx he hc) hne
      | true => simpa using hc
theorem orderN_ok (n : Nat) (E : Nat → Nat → Bool) (r : Nat → Nat) : ∀ m, OrderOk n E r (orderN n E r m)
  | 0 => OrderOk.nil n E r
  | m + 1 => by
    have ih := orderN_ok n E r m
    unfold orderN
    cases h : nextO n E r (orderN n E r m) with
    | none => exact ih
    | some k =>
      obtain ⟨a, b, _⟩ := find_least h
      exact ih.snoc a b
theorem ReachT.next_some {n : Nat} {E : Nat → Nat → Bool} {t : Tab} (h : ReachT n E t) {o : List Nat} (ho : o.length < n) : ∃ k, nextO n E (ringN n t) o = some k := by
  obtain ⟨k, hk, hn⟩ := untold ho
  obtain ⟨j, hj, hr⟩ := h.some_ready (fun x => o.contains x) _ k (Nat.le_refl _) hk (by simpa using hn)
  cases hf : nextO n E (ringN n t) o with
  | some k => exact ⟨k, rfl⟩
  | none => exact absurd hr (List.find?_eq_none.1 hf j (List.mem_range.2 hj))
theorem ReachT.order_len {n : Nat} {E : Nat → Nat → Bool} {t : Tab} (h : ReachT n E t) : ∀ m, m ≤ n → (orderN n E (ringN n t) m).length = m
  | 0, _ => rfl
  | m + 1, hm => by
    have ih := h.order_len m (by omega)
    obtain ⟨k, hk⟩ := h.next_some (o := orderN n E (ringN n t) m) (by omega)
    unfold orderN
    rw [hk]
    simp [ih]
def intsN (l : List Nat) : List Int := l.map fun (k : Nat) => (k : Int)
theorem intsN_len (l : List Nat) : (intsN l).length = l.length := by simp [intsN]
theorem intsN_get {l : List Nat} {i : Nat} (h : i < (intsN l).length) : (intsN l)[i] = ((l[i]'(by simpa [intsN] using h) : Nat) : Int) := by simp [intsN]

/-- does one function of a unit call another one? -/
def edgeU (xs : List FunL) (a b : Nat) : Bool := match xs[a]? with | some f => callsB f (b : Int) | none => false
theorem reachU (xs : List FunL) : ReachT xs.length (edgeU xs) (tableU xs) where
  refl := fun a ha => (table_path xs ha ha).2 (.refl a)
  trans := fun a b c ha hb hc h1 h2 => (table_path xs ha hc).2 (((table_path xs ha hb).1 h1).trans ((table_path xs hb hc).1 h2))
  edge := fun a b ha hb h => (table_path xs ha hb).2 (.step (.refl a) ((edge_iff ha hb).2 (by unfold edgeU at h; rw [List.getElem?_eq_getElem ha] at h; exact h)) hb)
/-- the order of a unit's functions -/
def orderU (xs : List FunL) : List Nat := orderN xs.length (edgeU xs) (ringN xs.length (tableU xs)) xs.length
end Go.Proofs.YtdjamkinijhjoaaDoor
