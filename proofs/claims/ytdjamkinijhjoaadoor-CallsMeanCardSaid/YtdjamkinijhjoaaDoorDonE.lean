/-
  Plain: the unit without what main does not reach is a unit that the check lets through; it reaches all of itself; done again it stays.
-/
import Derived.Test.YtdjamkinijhjoaaDoorBCdo
import Derived.Test.YtdjamkinijhjoaaDoorBCalO
namespace Go.Proofs.YtdjamkinijhjoaaDoor

theorem keepTo_idx {had : Nat → Bool} : ∀ {k c : Nat}, c < cnt had k → ∃ a, a < k ∧ had a = true ∧ cnt had a = c
  | 0, c, h => by simp [cnt] at h
  | k + 1, c, h => by
    rw [cnt] at h
    by_cases g : c < cnt had k
    · obtain ⟨a, h1, h2, h3⟩ := keepTo_idx g
      exact ⟨a, by omega, h2, h3⟩
    · split at h
      · rename_i hh
        exact ⟨k, by omega, hh, by omega⟩
      · omega
theorem keepTo_true {had : Nat → Bool} {xs : List FunL} : ∀ {k}, k ≤ xs.length → (∀ j, j < k → had j = true) → keepTo had xs k = xs.take k
  | 0, _, _ => by simp [keepTo]
  | k + 1, h, hh => by
    have hk : k < xs.length := h
    rw [keepTo_succ_yes hk (hh k (by omega)), keepTo_true (by omega) (fun j hj => hh j (by omega)), List.take_succ_eq_append_getElem hk]
theorem cnt_true {had : Nat → Bool} : ∀ {k}, (∀ j, j < k → had j = true) → cnt had k = k
  | 0, _ => rfl
  | k + 1, hh => by rw [cnt, cnt_true (fun j hj => hh j (by omega)), if_pos (hh k (by omega))]
theorem renF_many (at_ : Int → Int) (f : FunL) : manyL (renF at_ f) = manyL f := by
  unfold manyL renF putL
  simp [List.map_map, Function.comp_def]
theorem renF_ins {at_ : Int → Int} {f : FunL} {i : InsL} : i ∈ allIns (renF at_ f) ↔ ∃ x ∈ allIns f, renI at_ x = i := by
  unfold allIns renF putL
  simp only [List.mem_flatMap, List.mem_map]
  constructor
  · rintro ⟨b, ⟨b', hb, rfl⟩, hi⟩
    obtain ⟨x, hx, rfl⟩ := List.mem_map.1 hi
    exact ⟨x, ⟨b', hb, hx⟩, rfl⟩
  · rintro ⟨x, ⟨b, hb, hx⟩, rfl⟩
    exact ⟨_, ⟨b, hb, rfl⟩, List.mem_map.2 ⟨x, hx, rfl⟩⟩

section
variable {u : UniL} {m : Nat} (hu : ChkOk u) (hm : mainI u.funcs = some m)
include hu hm
theorem done_len : (doneU (tableU u.funcs m) u).funcs.length = cnt (tableU u.funcs m) u.funcs.length := by
  have _ := hu
  have _ := hm
  unfold doneU
  rw [List.length_map, keepTo_len _ _ _ (Nat.le_refl _)]
theorem done_get {a : Nat} (ha : a < u.funcs.length) (hh : tableU u.funcs m a = true) : (doneU (tableU u.funcs m) u).funcs[cnt (tableU u.funcs m) a]? = some (renF (fun x => atD (tableU u.funcs m) u.funcs.length x.toNat) u.funcs[a]) := by
  have _ := hu
  have _ := hm
  unfold doneU
  rw [List.getElem?_map, keepTo_get _ _ ha hh ha]
  rfl
theorem had_main : tableU u.funcs m m = true := have _ := hu; (table_path u.funcs (mainI_lt hm) (mainI_lt hm)).2 (.refl _)
theorem had_call {a : Nat} (ha : a < u.funcs.length) (hh : tableU u.funcs m a = true) {x : InsL} (hx : x ∈ allIns u.funcs[a]) (ho : x.op = 20) : 0 ≤ x.fn ∧ x.fn < (u.funcs.length : Int) ∧ tableU u.funcs m x.fn.toNat = true := by
  have hmem : x.fn ∈ calleesL (allIns u.funcs[a]) := List.mem_map.2 ⟨x, List.mem_filter.2 ⟨hx, by simp [ho]⟩, rfl⟩
  obtain ⟨h1, h2⟩ := hu.callees ha _ hmem
  refine ⟨h1, h2, ?_⟩
  have hb : x.fn.toNat < u.funcs.length := by omega
  refine (table_path u.funcs (mainI_lt hm) hb).2 (.step ((table_path u.funcs (mainI_lt hm) ha).1 hh) ((edge_iff ha hb).2 ?_) hb)
  rw [callsB_mem, show ((x.fn.toNat : Nat) : Int) = x.fn by omega]
  exact hmem
/-- each function of the new unit: which one it was -/
theorem done_from {c : Nat} (hc : c < (doneU (tableU u.funcs m) u).funcs.length) : ∃ a, ∃ ha : a < u.funcs.length, tableU u.funcs m a = true ∧ cnt (tableU u.funcs m) a = c ∧ (doneU (tableU u.funcs m) u).funcs[c] = renF (fun x => atD (tableU u.funcs m) u.funcs.length x.toNat) u.funcs[a] := by
  rw [done_len hu hm] at hc
  obtain ⟨a, h1, h2, h3⟩ := keepTo_idx hc
  refine ⟨a, h1, h2, h3, ?_⟩
  have h4 := done_get hu hm h1 h2
  rw [h3] at h4
  exact (List.getElem?_eq_some_iff.1 h4).2
theorem done_par {a : Nat} (ha : a < u.funcs.length) (hh : tableU u.funcs m a = true) : parU (doneU (tableU u.funcs m) u) (cnt (tableU u.funcs m) a) = parU u a := by
  unfold parU
  rw [List.getD, List.getD, List.getElem?_map, List.getElem?_map, done_get hu hm ha hh, List.getElem?_eq_getElem ha]
  rfl
theorem done_atD {a : Nat} (ha : a < u.funcs.length) (hh : tableU u.funcs m a = true) : atD (tableU u.funcs m) u.funcs.length a = (cnt (tableU u.funcs m) a : Int) := by
  have _ := hu
  have _ := hm
  unfold atD
  rw [if_pos ⟨ha, hh⟩]
theorem done_cnt {a : Nat} (ha : a < u.funcs.length) (hh : tableU u.funcs m a = true) : cnt (tableU u.funcs m) a < (doneU (tableU u.funcs m) u).funcs.length := by
  rw [done_len hu hm]
  exact cnt_lt _ ha hh
theorem done_ins {a : Nat} (ha : a < u.funcs.length) (hh : tableU u.funcs m a = true) {x : InsL} (hx : x ∈ allIns u.funcs[a]) (h0 : insL u u.funcs[a] x = 0) :
    insL (doneU (tableU u.funcs m) u) (renF (fun x => atD (tableU u.funcs m) u.funcs.length x.toNat) u.funcs[a]) (renI (fun x => atD (tableU u.funcs m) u.funcs.length x.toNat) x) = 0 := by
  by_cases ho : x.op = 20
  · obtain ⟨h1, h2, h3⟩ := had_call hu hm ha hh hx ho
    have hb : x.fn.toNat < u.funcs.length := by omega
    have hd := done_atD hu hm hb h3
    have hcc := done_cnt hu hm hb h3
    have hr : renI (fun x => atD (tableU u.funcs m) u.funcs.length x.toNat) x = { x with fn := (cnt (tableU u.funcs m) x.fn.toNat : Int) } := by
      unfold renI
      rw [if_pos ho]
      show ({ x with fn := atD (tableU u.funcs m) u.funcs.length x.fn.toNat } : InsL) = _
      rw [hd]
    rw [hr]
    have hrg : (renF (fun x => atD (tableU u.funcs m) u.funcs.length x.toNat) u.funcs[a]).regs = u.funcs[a].regs := rfl
    unfold insL insE at h0 ⊢
    simp only
    rw [ho] at h0 ⊢
    rw [hrg]
    split at h0
    · cases h0
    rename_i e1
    rw [if_neg e1]
    split at h0
    · cases h0
    rename_i e2
    rw [if_neg (by simpa using e2)]
    split at h0
    · rename_i e3
      exact absurd h0 e3.2.2
    rename_i e3
    rw [if_neg e3]
    have ha1 := firstE_all h0
    refine firstE_zero fun y hy => ?_
    simp only [List.mem_cons, List.not_mem_nil, or_false] at hy
    rcases hy with rfl | rfl | rfl
    · exact ha1 _ (by simp)
    · exact ha1 _ (by simp)
    · have hc := ha1 (callE u.funcs[a].regs u.funcs.length (parU u) ((20 : Int) == 20) x.fn x.args) (by simp)
      unfold callE at hc ⊢
      rw [if_neg (by simp)] at hc ⊢
      rw [if_neg (by omega)] at hc
      rw [if_neg (by omega)]
      rw [show ((cnt (tableU u.funcs m) x.fn.toNat : Int)).toNat = cnt (tableU u.funcs m) x.fn.toNat by omega, done_par hu hm hb h3]
      exact hc
  · have hr : renI (fun x => atD (tableU u.funcs m) u.funcs.length x.toNat) x = x := by
      unfold renI
      rw [if_neg ho]
    rw [hr]
    unfold insL insE at h0 ⊢
    have hf : (x.op == 20) = false := by simpa using ho
    simp only [callE, hf] at h0 ⊢
    exact h0
theorem done_body {a : Nat} (ha : a < u.funcs.length) (hh : tableU u.funcs m a = true) : bodyE (doneU (tableU u.funcs m) u) (renF (fun x => atD (tableU u.funcs m) u.funcs.length x.toNat) u.funcs[a]) = 0 := by
  have hb := hu.body a ha
  rw [bodyI_eq ha] at hb
  have hends : ((renF (fun x => atD (tableU u.funcs m) u.funcs.length x.toNat) u.funcs[a]).blocks.map fun b => endL (renF (fun x => atD (tableU u.funcs m) u.funcs.length x.toNat) u.funcs[a]) b.fin) = u.funcs[a].blocks.map fun b => endL u.funcs[a] b.fin := by
    simp [renF, putL, endL, List.map_map, Function.comp_def]
  have htos : tosL (renF (fun x => atD (tableU u.funcs m) u.funcs.length x.toNat) u.funcs[a]) = tosL u.funcs[a] := by
    simp [renF, putL, tosL, List.map_map, Function.comp_def]
  have hways : waysL (renF (fun x => atD (tableU u.funcs m) u.funcs.length x.toNat) u.funcs[a]) = waysL u.funcs[a] := by
    unfold waysL
    rw [htos]
    simp [renF]
  unfold bodyE at hb ⊢
  rw [hends]
  split at hb
  · rename_i he
    rw [if_pos he]
    have hall := firstE_all hb
    refine firstE_zero fun y hy => ?_
    obtain ⟨j, hj, rfl⟩ := List.mem_map.1 hy
    have hj2 : j < u.funcs[a].blocks.length := by
      have := List.mem_range.1 hj
      simpa [renF] using this
    have hbj := hall (blkI u u.funcs[a] j) (List.mem_map.2 ⟨j, List.mem_range.2 hj2, rfl⟩)
    have hg : (renF (fun x => atD (tableU u.funcs m) u.funcs.length x.toNat) u.funcs[a]).blocks[j]? = some (putL u.funcs[a].blocks[j] (u.funcs[a].blocks[j].list.map (renI fun x => atD (tableU u.funcs m) u.funcs.length x.toNat))) := by
      simp [renF, hj2]
    unfold blkI at hbj ⊢
    rw [List.getElem?_eq_getElem hj2] at hbj
    rw [hg]
    simp only at hbj ⊢
    unfold blkE at hbj ⊢
    rw [hways]
    have hphi : (putL u.funcs[a].blocks[j] (u.funcs[a].blocks[j].list.map (renI fun x => atD (tableU u.funcs m) u.funcs.length x.toNat))).phis.map (phiL (renF (fun x => atD (tableU u.funcs m) u.funcs.length x.toNat) u.funcs[a]) j (rowOf (waysL u.funcs[a]) j).length) = u.funcs[a].blocks[j].phis.map (phiL u.funcs[a] j (rowOf (waysL u.funcs[a]) j).length) := rfl
    rw [hphi]
    split at hbj
    · rename_i hp
      rw [if_pos hp]
      have hins := firstE_all hbj
      refine firstE_zero fun y hy => ?_
      obtain ⟨i, hi, rfl⟩ := List.mem_map.1 hy
      obtain ⟨x, hx, rfl⟩ := List.mem_map.1 (show i ∈ u.funcs[a].blocks[j].list.map (renI fun x => atD (tableU u.funcs m) u.funcs.length x.toNat) from hi)
      exact done_ins hu hm ha hh (List.mem_flatMap.2 ⟨_, List.getElem_mem hj2, hx⟩) (hins _ (List.mem_map.2 ⟨x, hx, rfl⟩))
    · rename_i hp
      exact absurd hbj hp
  · rename_i he
    exact absurd hb he
theorem done_head {a c : Nat} (ha : a < u.funcs.length) (_hh : tableU u.funcs m a = true) (hc : c < (doneU (tableU u.funcs m) u).funcs.length) (hac : cnt (tableU u.funcs m) a = c) : headE (namesF (doneU (tableU u.funcs m) u) c) (renF (fun x => atD (tableU u.funcs m) u.funcs.length x.toNat) u.funcs[a]) = 0 := by
  have h0 := hu.head a ha
  rw [headI_eq ha] at h0
  have hsub : ∀ x ∈ namesF (doneU (tableU u.funcs m) u) c, x ∈ namesF u a := fun x hx => by
    unfold namesF at hx ⊢
    rcases List.mem_append.1 hx with h | h
    · exact List.mem_append_left _ h
    · refine List.mem_append_right _ ?_
      obtain ⟨f, hf, rfl⟩ := List.mem_map.1 h
      obtain ⟨c', hc', rfl⟩ := List.getElem_of_mem hf
      rw [List.length_take] at hc'
      rw [List.getElem_take]
      obtain ⟨a', ha', hh', hca, hfe⟩ := done_from hu hm (c := c') (by omega)
      rw [hfe]
      refine List.mem_map.2 ⟨u.funcs[a'], ?_, rfl⟩
      have hlt : a' < a := by
        rcases Nat.lt_or_ge a' a with g | g
        · exact g
        · have := cnt_mono (tableU u.funcs m) g
          omega
      exact List.mem_iff_getElem.2 ⟨a', by rw [List.length_take]; omega, by rw [List.getElem_take]⟩
  unfold headE at h0 ⊢
  have hn : (renF (fun x => atD (tableU u.funcs m) u.funcs.length x.toNat) u.funcs[a]).name = u.funcs[a].name := rfl
  have hp : (renF (fun x => atD (tableU u.funcs m) u.funcs.length x.toNat) u.funcs[a]).params = u.funcs[a].params := rfl
  have hr : (renF (fun x => atD (tableU u.funcs m) u.funcs.length x.toNat) u.funcs[a]).regs = u.funcs[a].regs := rfl
  have hl : (renF (fun x => atD (tableU u.funcs m) u.funcs.length x.toNat) u.funcs[a]).blocks.length = u.funcs[a].blocks.length := by simp [renF]
  rw [hn, hp, hr, hl, renF_many]
  split at h0
  · cases h0
  rename_i e1
  rw [if_neg e1]
  split at h0
  · cases h0
  rename_i e2
  rw [if_neg (fun h => e2 (hasB_iff.2 (hsub _ (hasB_iff.1 h))))]
  exact h0
theorem done_main : mainI (doneU (tableU u.funcs m) u).funcs = some (cnt (tableU u.funcs m) m) := by
  have hml := mainI_lt hm
  have hmm := had_main hu hm
  have hfind := hm
  unfold mainI at hfind
  have hmb := List.find?_some hfind
  simp only [List.getElem?_eq_getElem hml] at hmb
  have hbef : ∀ j (h : j < u.funcs.length), j < m → mainB u.funcs[j] = false := fun j h hj => by
    rw [List.find?_eq_some_iff_append] at hfind
    obtain ⟨_, l1, l2, he, hall⟩ := hfind
    have hlen : l1.length = m := by
      have h1 : (List.range u.funcs.length)[l1.length]? = some m := by rw [he]; simp
      obtain ⟨h2, h3⟩ := List.getElem?_eq_some_iff.1 h1
      simpa using h3
    have hj1 : (List.range u.funcs.length)[j]? = l1[j]? := by rw [he, List.getElem?_append_left (by omega)]
    have hj2 : j ∈ l1 := by
      rw [List.getElem?_range h] at hj1
      exact List.mem_of_getElem? hj1.symm
    have := hall j hj2
    simpa [List.getElem?_eq_getElem h] using this
  refine mainI_hit (done_cnt hu hm hml hmm) (fun j h hj => ?_) ?_
  · obtain ⟨a, ha, hh, hca, hfe⟩ := done_from hu hm h
    rw [hfe]
    refine hbef a ha ?_
    rcases Nat.lt_or_ge a m with g | g
    · exact g
    · have := cnt_mono (tableU u.funcs m) g
      omega
  · have h1 := done_get hu hm hml hmm
    rw [(List.getElem?_eq_some_iff.1 h1).2]
    exact hmb
theorem done_ok : ChkOk (doneU (tableU u.funcs m) u) where
  ng := hu.ng
  nf := by
    rw [done_len hu hm]
    have := cnt_le (tableU u.funcs m) u.funcs.length
    have := hu.nf
    omega
  glo := hu.glo
  head := fun j hj => by
    obtain ⟨a, ha, hh, hca, hfe⟩ := done_from hu hm hj
    rw [headI_eq hj, hfe]
    exact done_head hu hm ha hh hj hca
  body := fun j hj => by
    obtain ⟨a, ha, hh, hca, hfe⟩ := done_from hu hm hj
    rw [bodyI_eq hj, hfe]
    exact done_body hu hm ha hh
  main := by
    obtain ⟨m', hm', hp⟩ := hu.main
    rw [hm] at hm'
    cases hm'
    exact ⟨_, done_main hu hm, by rw [done_par hu hm (mainI_lt hm) (had_main hu hm)]; exact hp⟩
theorem ChkOk.chk0 : (chk u).1 = 0 := by
  have _ := hm
  unfold chk chkO
  rw [if_neg (by have := hu.ng; have := hu.nf; omega), firstAt_none hu.glo]
  simp only
  rw [firstAt_none hu.head]
  simp only
  rw [firstAt_none hu.body]
  simp only
  obtain ⟨m', hm', hp⟩ := hu.main
  rw [mainAt_eq, hm']
  simp only
  rw [if_neg (by omega)]
  rfl
/-- the new unit reaches all of itself -/
theorem done_all {c : Nat} (hc : c < (doneU (tableU u.funcs m) u).funcs.length) : tableU (doneU (tableU u.funcs m) u).funcs (cnt (tableU u.funcs m) m) c = true := by
  obtain ⟨a, ha, hh, hca, _⟩ := done_from hu hm hc
  have hml := mainI_lt hm
  have hmm := had_main hu hm
  have hP := (table_path u.funcs hml ha).1 hh
  have key : ∀ a b, Path u.funcs.length (edgeL (graphTo u.funcs u.funcs.length)) a b → ∀ (ha : a < u.funcs.length) (hb : b < u.funcs.length), tableU u.funcs m a = true → Path (doneU (tableU u.funcs m) u).funcs.length (edgeL (graphTo (doneU (tableU u.funcs m) u).funcs (doneU (tableU u.funcs m) u).funcs.length)) (cnt (tableU u.funcs m) a) (cnt (tableU u.funcs m) b) ∧ tableU u.funcs m b = true := by
    intro a b h
    induction h with
    | refl => exact fun _ _ hh => ⟨.refl _, hh⟩
    | step p e hlt ih =>
      rename_i x y
      intro ha hb hh
      have hx : x < u.funcs.length := by
        obtain ⟨r, hr, _⟩ := e
        have := (List.getElem?_eq_some_iff.1 hr).1
        rw [graphTo_all] at this
        exact this
      obtain ⟨hp, hhx⟩ := ih ha hx hh
      have hc := (edge_iff hx hb).1 e
      rw [callsB_mem] at hc
      obtain ⟨i, hi, hfn⟩ := List.mem_map.1 hc
      obtain ⟨hi1, hi2⟩ := List.mem_filter.1 hi
      have ho : i.op = 20 := by simpa using hi2
      have hfn2 : i.fn = (y : Int) := hfn
      obtain ⟨h1, h2, h3⟩ := had_call hu hm hx hhx hi1 ho
      have hty : i.fn.toNat = y := by omega
      rw [hty] at h3
      refine ⟨.step hp ((edge_iff (done_cnt hu hm hx hhx) (done_cnt hu hm hb h3)).2 ?_) (done_cnt hu hm hb h3), h3⟩
      have hg := done_get hu hm hx hhx
      rw [(List.getElem?_eq_some_iff.1 hg).2, callsB_mem]
      refine List.mem_map.2 ⟨renI (fun x => atD (tableU u.funcs m) u.funcs.length x.toNat) i, List.mem_filter.2 ⟨renF_ins.2 ⟨i, hi1, rfl⟩, ?_⟩, ?_⟩
      · unfold renI
        rw [if_pos ho]
        simp [ho]
      · unfold renI
        rw [if_pos ho, hfn2]
        show atD _ _ (y : Int).toNat = _
        rw [show ((y : Int)).toNat = y by omega, done_atD hu hm hb h3]
  obtain ⟨hp, _⟩ := key m a hP hml ha hmm
  rw [hca] at hp
  exact (table_path _ (done_cnt hu hm hml hmm) hc).2 hp
theorem done_same : doneU (tableU (doneU (tableU u.funcs m) u).funcs (cnt (tableU u.funcs m) m)) (doneU (tableU u.funcs m) u) = doneU (tableU u.funcs m) u := by
  obtain ⟨D, hD⟩ : ∃ D, D = doneU (tableU u.funcs m) u := ⟨_, rfl⟩
  have hok : ChkOk D := by rw [hD]; exact done_ok hu hm
  have hall : ∀ j, j < D.funcs.length → tableU D.funcs (cnt (tableU u.funcs m) m) j = true := by rw [hD]; exact fun j hj => done_all hu hm hj
  rw [← hD]
  unfold doneU
  rw [keepTo_true (Nat.le_refl _) hall, List.take_length]
  have hid : ∀ f ∈ D.funcs, renF (fun x => atD (tableU D.funcs (cnt (tableU u.funcs m) m)) D.funcs.length x.toNat) f = f := fun f hf => by
    obtain ⟨k, hk, rfl⟩ := List.getElem_of_mem hf
    have hb : ∀ b ∈ D.funcs[k].blocks, putL b (b.list.map (renI fun x => atD (tableU D.funcs (cnt (tableU u.funcs m) m)) D.funcs.length x.toNat)) = b := fun b hb => by
      have hl : b.list.map (renI fun x => atD (tableU D.funcs (cnt (tableU u.funcs m) m)) D.funcs.length x.toNat) = b.list := by
        conv => rhs; rw [← List.map_id b.list]
        refine List.map_congr_left fun x hx => ?_
        unfold renI
        by_cases ho : x.op = 20
        · rw [if_pos ho]
          have hmem : x.fn ∈ calleesL (allIns D.funcs[k]) := List.mem_map.2 ⟨x, List.mem_filter.2 ⟨List.mem_flatMap.2 ⟨b, hb, hx⟩, by simp [ho]⟩, rfl⟩
          obtain ⟨h1, h2⟩ := hok.callees hk _ hmem
          have hlt : x.fn.toNat < D.funcs.length := by omega
          have : atD (tableU D.funcs (cnt (tableU u.funcs m) m)) D.funcs.length x.fn.toNat = x.fn := by
            unfold atD
            rw [if_pos ⟨hlt, hall _ hlt⟩, cnt_true (fun j hj => hall j (by omega))]
            omega
          show ({ x with fn := atD (tableU D.funcs (cnt (tableU u.funcs m) m)) D.funcs.length x.fn.toNat } : InsL) = x
          rw [this]
        · rw [if_neg ho]
          rfl
      rw [hl]
      rfl
    unfold renF
    have : D.funcs[k].blocks.map (fun b => putL b (b.list.map (renI fun x => atD (tableU D.funcs (cnt (tableU u.funcs m) m)) D.funcs.length x.toNat))) = D.funcs[k].blocks := by
      conv => rhs; rw [← List.map_id D.funcs[k].blocks]
      exact List.map_congr_left fun b h => hb b h
    rw [this]
  have : D.funcs.map (renF fun x => atD (tableU D.funcs (cnt (tableU u.funcs m) m)) D.funcs.length x.toNat) = D.funcs := by
    conv => rhs; rw [← List.map_id D.funcs]
    exact List.map_congr_left fun f h => hid f h
  rw [this]
end
end Go.Proofs.YtdjamkinijhjoaaDoor
