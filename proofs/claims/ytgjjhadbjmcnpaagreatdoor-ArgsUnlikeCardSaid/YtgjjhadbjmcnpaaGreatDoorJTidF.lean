/-
  Plain: a block goes into the only one ahead of it (x8): ways in, phis; the check's dema
-/
import Derived.Test.YtgjjhadbjmcnpaaGreatDoorJTidC
import Derived.Shelf.SlSortCmp.WholeK
import Derived.Shelf.SlSortCmp.NoneTotal
import Derived.Test.YtgjjhadbjmcnpaaGreatDoorGcpA
set_option maxRecDepth 100000
set_option maxHeartbeats 16000000
namespace Go.Proofs.YtgjjhadbjmcnpaaGreatDoor
open Go.RowKit

theorem V8 {l m:List (Int×(Bool×Int))} (hp:l.Perm m) (hm:m.Pairwise fun a b=>a.1<b.1):sortK l=m:=by
 refine List.Perm.eq_of_pairwise (le:=fun a b=>decide (a.1≤b.1)=true) (fun a b ha hb h1 h2=>?_) ?_ ?_ ((List.mergeSort_perm _ _).trans hp)
 ·have ha':a∈m:=hp.mem_iff.1 ((List.mergeSort_perm _ _).mem_iff.1 ha)
  have h1:=of_decide_eq_true h1
  have h2:=of_decide_eq_true h2
  obtain ⟨i,hi,e1⟩:=List.mem_iff_getElem.1 ha'
  obtain ⟨j,hj,e2⟩:=List.mem_iff_getElem.1 hb
  rw [List.pairwise_iff_getElem] at hm
  by_cases e:i=j
  ·subst e;rw [←e1,←e2]
  rcases Nat.lt_or_gt_of_ne e with g|g
  ·have:=hm i j hi hj g
   rw [e1,e2] at this
   omega
  have:=hm j i hj hi g
  rw [e1,e2] at this
  omega
 ·exact List.pairwise_mergeSort (fun a b c h1 h2=>by simp only [decide_eq_true_eq] at h1 h2 ⊢;omega) (fun a b=>by simp only [Bool.or_eq_true,decide_eq_true_eq];omega) l
 exact hm.imp fun h=>by simp only [decide_eq_true_eq];omega

theorem V9 {o:List Nat} (ah:List Nat) (g:Nat→Bool×Int):V5 (qB o) ah (ah.map g)=(ah.filter fun a=>decide (a∈o)).map fun a=>((o.idxOf a:Int),g a):=by
 unfold V5
 induction ah with
 | nil=>rfl
 | cons a l ih=>
  simp only [List.map_cons,List.zip_cons_cons,List.filter_cons]
  by_cases h:a∈o
  ·rw [if_pos (by rw [xp h];simp),if_pos (by simpa using h),List.map_cons,ih,xp h]
  have e:qB o a = -1:=by unfold qB;rw [if_neg h]
  rw [if_neg (by rw [e];simp),if_neg (by simpa using h),ih]

theorem kw {f:FunL} (hf:FunD f) {o:List Nat} (h:OrdC f o) {b:Nat} (hb:b∈o) {j:Nat}:j∈insN (zi o f) (o.idxOf b)↔∃hj:j<o.length,o[j]∈insN f b:=by
 rw [(hf.keep h).mem,zq]
 constructor
 ·rintro ⟨hj,hm⟩
  refine ⟨hj,hf.mem.2 ⟨h.inb _ (List.getElem_mem hj),?_⟩⟩
  rw [kv h hj] at hm
  obtain ⟨t,ht,e⟩:=List.mem_map.1 hm
  have h1:=h.closed _ (List.getElem_mem hj) t ht
  have h2:=kQ h1 hb (by omega)
  have h3:=hf.tosB _ (h.inb _ (List.getElem_mem hj)) t ht
  rw [←h2,show ((t.toNat:Nat):Int)=t by omega]
  exact ht
 rintro ⟨hj,hm⟩
 refine ⟨hj,?_⟩
 rw [kv h hj]
 exact List.mem_map.2 ⟨_,(hf.mem.1 hm).2,by simp⟩
theorem xF {f:FunL} (hf:FunD f) (c:Nat):(insN f c).Pairwise (·<·):=by
 rw [hf.insN]
 exact List.pairwise_lt_range.filter _

theorem Xy {f:FunL} (hf:FunD f) {o:List Nat} (h:OrdC f o) {b:Nat} (hb:b∈o) (g:Nat→Bool×Int):srcK (qB o) (insN f b) ((insN f b).map g)=(insN (zi o f) (o.idxOf b)).map fun j=>g (o.getD j 0):=by
 have hd:=hf.keep h
 unfold srcK
 rw [V9,V8 (m:=(insN (zi o f) (o.idxOf b)).map fun (j:Nat)=>((j:Int),g (o.getD j 0)))]
 ·rw [List.map_map];rfl
 ·have hg:∀j,j∈insN (zi o f) (o.idxOf b)→∃hj:j<o.length,o.getD j 0=o[j]∧o.idxOf o[j]=j∧o[j]∈insN f b:=fun j hj=>by
   obtain ⟨h1,h2⟩:=(kw hf h hb).1 hj
   exact ⟨h1,by simp [h1],h.once.idxOf_getElem j h1,h2⟩
  have e1:((insN (zi o f) (o.idxOf b)).map fun (j:Nat)=>((j:Int),g (o.getD j 0)))=((insN (zi o f) (o.idxOf b)).map fun j=>o.getD j 0).map fun a=>((o.idxOf a:Int),g a):=by
   rw [List.map_map]
   refine List.map_congr_left fun j hj=>?_
   obtain ⟨h1,h2,h3,_⟩:=hg j hj
   show _=((o.idxOf (o.getD j 0):Int),g (o.getD j 0))
   rw [h2,h3]
  rw [e1]
  refine List.Perm.map _ ?_
  refine (List.perm_ext_iff_of_nodup ((hf.insD b).filter _) ?_).2 fun a=>?_
  ·refine List.pairwise_map.2 (List.Pairwise.imp_of_mem (fun {x y} hx hy ne e=>ne ?_) (hd.insD (o.idxOf b)))
   obtain ⟨h1,h2,h3,_⟩:=hg x hx
   obtain ⟨k1,k2,k3,_⟩:=hg y hy
   rw [h2,k2] at e
   rw [←h3,←k3,e]
  rw [List.mem_filter,List.mem_map]
  constructor
  ·rintro ⟨h1,h2⟩
   have h2:a∈o:=by simpa using h2
   obtain ⟨h3,h4⟩:=xx h2
   refine ⟨o.idxOf a,(kw hf h hb).2 ⟨h3,by rw [h4];exact h1⟩,by simp [h3,h4]⟩
  rintro ⟨j,hj,rfl⟩
  obtain ⟨h1,h2,h3,h4⟩:=hg j hj
  rw [h2]
  exact ⟨h4,by simp⟩
 exact List.pairwise_map.2 ((xF hd _).imp fun h=>by show (_:Int)<_;omega)

def Q7 (ah:List Nat) (src:List (Bool×Int)) (a:Nat):Bool×Int:=src.getD (ah.idxOf a) (false,0)
theorem fromR_row {ah:List Nat} (hd:ah.Nodup) {src:List (Bool×Int)} (h:src.length=ah.length):src=ah.map (Q7 ah src):=by
 refine List.ext_getElem (by simp [h]) fun i h1 h2=>?_
 simp only [List.getElem_map]
 unfold Q7
 rw [hd.idxOf_getElem i (by omega)]
 simp [h1]
theorem fromR_map {ah:List Nat} (g:Nat→Bool×Int) {a:Nat} (h:a∈ah):Q7 ah (ah.map g) a=g a:=by
 obtain ⟨h1,h2⟩:=xx h
 unfold Q7
 simp [h1,h2]
end Go.Proofs.YtgjjhadbjmcnpaaGreatDoor
namespace Go.Proofs
open Go.Shelf Go.Sort Go.RowKit Go.Lib
def Tryz.srtf_ren:Go.Shelf.Ren:=⟨fun|6=>97|15=>109|14=>108|28=>124|29=>125|20=>116|21=>117|22=>118|23=>119|24=>120|25=>121|26=>122|27=>123|46=>128|47=>129|48=>130|49=>131|50=>132|57=>134|n=>n,fun|22=>140|24=>142|25=>144|3=>3|39=>151|0=>0|53=>162|55=>165|4=>4|46=>171|45=>170|50=>56|5=>5|9=>9|66=>179|70=>183|76=>186|77=>187|n=>n,fun n=>n⟩
theorem Tryz.srtf:SlLaysF0.n6 Tryz.prog Tryz.srtf_ren where
 mixed:=by kernel_rfl
 f6 := ⟨"slices.SortFunc[[]turnery/tidy.from,turnery/tidy.from]", by decide, Tryz.func97.trans (congrArg some (by kernel_rfl))⟩
 f14 := ⟨"slices.pdqsortCmpFunc[turnery/tidy.from]", by decide, Tryz.func108.trans (congrArg some (by kernel_rfl))⟩
 f15:=Tryz.func109.trans (congrArg some (by kernel_rfl))
 f20 := ⟨"slices.insertionSortCmpFunc[turnery/tidy.from]", by decide, Tryz.func116.trans (congrArg some (by kernel_rfl))⟩
 f21 := ⟨"slices.heapSortCmpFunc[turnery/tidy.from]", by decide, Tryz.func117.trans (congrArg some (by kernel_rfl))⟩
 f22 := ⟨"slices.breakPatternsCmpFunc[turnery/tidy.from]", by decide, Tryz.func118.trans (congrArg some (by kernel_rfl))⟩
 f23 := ⟨"slices.choosePivotCmpFunc[turnery/tidy.from]", by decide, Tryz.func119.trans (congrArg some (by kernel_rfl))⟩
 f24 := ⟨"slices.reverseRangeCmpFunc[turnery/tidy.from]", by decide, Tryz.func120.trans (congrArg some (by kernel_rfl))⟩
 f25 := ⟨"slices.partialInsertionSortCmpFunc[turnery/tidy.from]", by decide, Tryz.func121.trans (congrArg some (by kernel_rfl))⟩
 f26 := ⟨"slices.partitionEqualCmpFunc[turnery/tidy.from]", by decide, Tryz.func122.trans (congrArg some (by kernel_rfl))⟩
 f27 := ⟨"slices.partitionCmpFunc[turnery/tidy.from]", by decide, Tryz.func123.trans (congrArg some (by kernel_rfl))⟩
 f28:=Tryz.func124.trans (congrArg some (by kernel_rfl))
 f29:=Tryz.func125.trans (congrArg some (by kernel_rfl))
 f46 := ⟨"slices.siftDownCmpFunc[turnery/tidy.from]", by decide, Tryz.func128.trans (congrArg some (by kernel_rfl))⟩
 f47:=Tryz.func129.trans (congrArg some (by kernel_rfl))
 f48:=Tryz.func130.trans (congrArg some (by kernel_rfl))
 f49 := ⟨"slices.medianAdjacentCmpFunc[turnery/tidy.from]", by decide, Tryz.func131.trans (congrArg some (by kernel_rfl))⟩
 f50 := ⟨"slices.medianCmpFunc[turnery/tidy.from]", by decide, Tryz.func132.trans (congrArg some (by kernel_rfl))⟩
 f57 := ⟨"slices.order2CmpFunc[turnery/tidy.from]", by decide, Tryz.func134.trans (congrArg some (by kernel_rfl))⟩
 t0:=Tryz.underlying0
 a0:=Tryz.isAgg0
 z0:=Tryz.sizeOf0
 v0:=Tryz.zeroValue0
 t3:=Tryz.underlying3
 a3:=Tryz.isAgg3
 z3:=Tryz.sizeOf3
 v3:=Tryz.zeroValue3
 t4:=Tryz.underlying4
 a4:=Tryz.isAgg4
 z4:=Tryz.sizeOf4
 v4:=Tryz.zeroValue4
 t5:=Tryz.underlying5
 a5:=Tryz.isAgg5
 z5:=Tryz.sizeOf5
 v5:=Tryz.zeroValue5
 t9:=Tryz.underlying9
 a9:=Tryz.isAgg9
 z9:=Tryz.sizeOf9
 v9:=Tryz.zeroValue9
 t22:=Tryz.underlying140
 a22:=Tryz.isAgg140
 z22:=Tryz.sizeOf140
 v22:=Tryz.zeroValue140
 t25:=Tryz.underlying144
 a25:=Tryz.isAgg144
 z25:=Tryz.sizeOf144
 v25:=Tryz.zeroValue144
 t39:=Tryz.underlying151
 a39:=Tryz.isAgg151
 z39:=Tryz.sizeOf151
 v39:=Tryz.zeroValue151
 t45:=Tryz.underlying170
 a45:=Tryz.isAgg170
 z45:=Tryz.sizeOf170
 v45:=Tryz.zeroValue170
 t46:=Tryz.underlying171
 a46:=Tryz.isAgg171
 z46:=Tryz.sizeOf171
 v46:=Tryz.zeroValue171
 t50:=Tryz.underlying56
 a50:=Tryz.isAgg56
 z50:=Tryz.sizeOf56
 v50:=Tryz.zeroValue56
 t53:=Tryz.underlying162
 a53:=Tryz.isAgg162
 z53:=Tryz.sizeOf162
 v53:=Tryz.zeroValue162
 t55:=Tryz.underlying165
 a55:=Tryz.isAgg165
 z55:=Tryz.sizeOf165
 v55:=Tryz.zeroValue165
 t66:=Tryz.underlying179
 a66:=Tryz.isAgg179
 z66:=Tryz.sizeOf179
 v66:=Tryz.zeroValue179
 t70:=Tryz.underlying183
 a70:=Tryz.isAgg183
 z70:=Tryz.sizeOf183
 v70:=Tryz.zeroValue183
 t76:=Tryz.underlying186
 a76:=Tryz.isAgg186
 z76:=Tryz.sizeOf186
 v76:=Tryz.zeroValue186
 t77:=Tryz.underlying187
 a77:=Tryz.isAgg187
 z77:=Tryz.sizeOf187
 v77:=Tryz.zeroValue187
end Go.Proofs
namespace Go.Proofs.YtgjjhadbjmcnpaaGreatDoor
open Go.RowKit Go.Shelf Go.Sort

abbrev FrmL:=Int×(Bool×Int)
def FrmO:ElemO FrmL:=fun _ cs x _=>cs=[.int .i64 x.1,.bool x.2.1,.int .i64 x.2.2]∧(0≤x.1∧x.1<1000000)∧I64 x.2.2
theorem Zf:vS FrmO:=fun _ _ _ _ _ h _ _=>h
abbrev FrmS:={ x:FrmL // 0≤x.1∧x.1<1000000 }
instance:Inhabited FrmS:=⟨⟨(0,(false,0)),by decide⟩⟩
def Va (x:FrmS):List Value:=[.int .i64 x.1.1,.bool x.1.2.1,.int .i64 x.1.2.2]
def cmpF (x y:FrmS):Int:=x.1.1 - y.1.1
theorem ltF (x y:FrmS):ltOf cmpF x y=decide (x.1.1<y.1.1):=by
 unfold ltOf cmpF
 rw [decide_eq_decide]
 omega
theorem swoF:SWO (ltOf cmpF) where
 irrefl x:=by rw [ltF];simp
 trans x y z h1 h2:=by rw [ltF] at *;simp at *;omega
 ntrans x y z h1 h2:=by rw [ltF] at *;simp at *;omega

theorem cmpF_any (x y:FrmS) (W:World):Calls Tryz.prog 98 #[.agg (Va x).toArray,.agg (Va y).toArray] W fun e w'=>e = .returned (.int .i64 (cmpF x y))∧∃q os',w'=grow (W.drewN q) os':=by
 obtain ⟨⟨x1,x2,x3⟩,hx⟩:=x
 obtain ⟨⟨y1,y2,y3⟩,hy⟩:=y
 simp only at hx hy
 have hw:IntKind.i64.wrap (x1 - y1)=x1 - y1:=by rw [IntKind.wrap_i64];omega
 unfold Va cmpF
 go_enter Tryz.func98,Tryz.ntmps98
 go_wp2
 go_ret
 exact ⟨rfl,0,_,by rw [alloc_eq_grow,alloc_eq_grow,grow_grow];rfl⟩

theorem RowAt.sorted {w:World} {e:TypeId} {g cap size:Nat} {cur:Array Value} (h:RowAt w e g cap size cur) {l:List Value} (hl:l.length≤cap*size) (q:Nat) (os:Array Obj) :
  (∃cur',RowAt (grow (putRow id (Sort.ahead w q) g 0 l.toArray) os) e g cap size cur'∧cur'.toList.take l.length=l)∧Kept (fun k=>k=g) w (grow (putRow id (Sort.ahead w q) g 0 l.toArray) os):=by
 have hg:=(Array.getElem?_eq_some_iff.1 h.1).1
 refine ⟨⟨putCells id 0 l.toArray cur,⟨?_,by simpa [putCells] using h.2.1,h.2.2⟩,?_⟩,⟨rfl,rfl,rfl,?_,fun k hk hn=>?_⟩⟩
 ·unfold grow putRow mapBlock Sort.ahead
  simp only
  rw [Array.getElem?_append_left (by simpa using hg),Array.getElem?_modify,if_pos rfl,h.1]
  rfl
 ·refine List.ext_getElem? fun j=>?_
  rw [List.getElem?_take,Array.getElem?_toList]
  by_cases hj:j<l.length
  ·have hjc:j<cur.size:=by have:=h.2.1;omega
   rw [if_pos hj]
   simp only [putCells,Array.getElem?_mapIdx,Array.getElem?_eq_getElem hjc,Option.map_some]
   rw [if_pos (by simp;omega),List.getElem?_eq_getElem hj]
   simp [getElem!_pos,hj]
  rw [if_neg hj,List.getElem?_eq_none (by omega)]
 ·unfold grow putRow mapBlock Sort.ahead
  simp
 unfold grow putRow mapBlock Sort.ahead
 simp only
 rw [Array.getElem?_append_left (by simpa using hk),Array.getElem?_modify,if_neg (fun e=>hn e.symm)]

theorem ZJ {α:Type} {f:α→List Value}:∀{xs:List α} {cs:Nat→List Value},(∀i (h:i<xs.length),cs i=f xs[i])→(List.range xs.length).flatMap cs=xs.flatMap f
 | [],_,_=>rfl
 | x::xs,cs,h=>by
  rw [List.length_cons,List.range_succ_eq_map,List.flatMap_cons,h 0 (by simp)]
  have ih:=ZJ (xs:=xs) (cs:=fun i=>cs (i+1)) fun i hi=>by
   have:=h (i+1) (by simpa using hi)
   simpa using this
  unfold List.flatMap at ih ⊢
  rw [List.map_map]
  rw [show (List.range xs.length).map (cs∘Nat.succ)=(List.range xs.length).map (fun i=>cs (i+1)) from rfl,ih]
  rfl
theorem Vb {α:Type} [Inhabited α] (enc:α→List Value) (k:Nat) (hk0:0<k) (hk:∀x,(enc x).length=k) (d:Array α):(flatK enc k d).toList=d.toList.flatMap enc:=by
 have e1:(List.range d.toList.length).flatMap (fun i=>enc d[i]!)=d.toList.flatMap enc:=ZJ fun i hi=>by
  rw [getElem!_pos d i (by simpa using hi)]
  rfl
 rw [←e1]
 refine List.ext_getElem? fun t=>?_
 rcases Nat.lt_or_ge t (d.size*k) with g|g
 ·have hi:t / k<d.toList.length:=Nat.div_lt_of_lt_mul (by rw [Nat.mul_comm];simpa using g)
  have hj:=Nat.mod_lt t hk0
  have e:t=t / k*k+t % k:=by rw [Nat.mul_comm];exact (Nat.div_add_mod t k).symm
  have h2:=xu (cs:=fun i=>enc d[i]!) (size:=k) d.toList.length (fun i _=>hk _) _ _ hi hj
  rw [←e] at h2
  rw [h2,Array.getElem?_toList,Array.getElem?_eq_getElem (by simpa using g),←getElem!_pos (flatK enc k d) t (by simpa using g),get_flatK enc k d t g]
  rw [List.getElem?_eq_getElem (by rw [hk];exact hj),←getElem!_pos (enc d[t / k]!) (t % k) (by rw [hk];exact hj)]
 rw [List.getElem?_eq_none (by simpa using g),List.getElem?_eq_none (by rw [zj (size:=k) _ (fun i _=>hk _)];simpa using g)]
def v7 (x:FrmL):List Value:=[.int .i64 x.1,.bool x.2.1,.int .i64 x.2.2]
def FrmH (x:FrmL):Prop:=(0≤x.1∧x.1<1000000)∧I64 x.2.2
theorem Zg (x:FrmL):∀u∈v7 x,u.oneCell'=true:=by
 intro u hu
 simp only [v7,List.mem_cons,List.not_mem_nil,or_false] at hu
 rcases hu with rfl|rfl|rfl<;>rfl
theorem SlO.rowF {w:World} {v:Value} {xs:List FrmL} {S:Blks} (h:SlO 142 3 FrmO w v xs S):w.ownsRow 0 142 3 v xs.length (xs.flatMap v7)∧(∀x∈xs,FrmH x)∧(∀g,v.ownBlock=some g→S g)∧InB w S:=by
 obtain ⟨cs,T,h⟩:=h
 refine ⟨?_,fun x hx=>?_,h.blk,h.inb⟩
 ·have:=h.own
  rwa [ZJ (f:=v7) fun i hi=>(h.el i hi).1] at this
 obtain ⟨i,hi,rfl⟩:=List.getElem_of_mem hx
 exact ⟨(h.el i hi).2.1,(h.el i hi).2.2⟩
theorem SlO.ofRowF {w:World} {v:Value} {xs:List FrmL} {S:Blks} (h:w.ownsRow 0 142 3 v xs.length (xs.flatMap v7)) (hx:∀x∈xs,FrmH x) (hv:∀g,v.ownBlock=some g→S g) (hS:InB w S):SlO 142 3 FrmO w v xs S:=by
 refine ⟨fun i=>v7 (xs.getD i (0,false,0)),fun _ _=>False,⟨?_,fun _ _=>rfl,fun i _=>Zg _,fun i hi=>⟨?_,(hx _ (List.getElem_mem hi)).1,(hx _ (List.getElem_mem hi)).2⟩,fun _ _ _ _ _ _ a _=>a,fun _ _ _ _ a=>a,hv,fun _ _ _ a=>a.elim,hS⟩⟩
 ·rw [ZJ (f:=v7) fun i hi=>by simp [List.getD,hi]]
  exact h
 simp [v7,List.getD,hi]
theorem Vc {w:World} {e:TypeId} {size:Nat} {v:Value} {n:Nat} {xs:List Value} (h:w.ownsRow 0 e size v n xs) (hn:0<n):∃g cap cur,v = .slice (some ⟨g,0,none⟩) n cap∧RowAt w e g cap size cur∧n≤cap∧cur.toList.take (n*size)=xs:=by
 rcases h.2 with ⟨_,h2⟩|⟨g,cap,cur,hv,_,hg,h1,h2,h3,h4⟩
 ·omega
 exact ⟨g,cap,cur,hv,⟨hg,h3,h2⟩,h1,h4⟩

theorem Xz (p:Option Addr) (cap:Nat) (xs:List FrmL) (w:World) (S:Blks) (h:SlO 142 3 FrmO w (.slice p xs.length cap) xs S) (hlen:xs.length≤100000) :
  Calls Tryz.prog 97 #[.slice p xs.length cap,.func (.func 98) #[] #[]] w fun e w'=>e = .returned (.tuple #[])∧(∃ys:List FrmL,ys.Perm xs∧ys.Pairwise (fun a b=>a.1≤b.1)∧SlO 142 3 FrmO w' (.slice p xs.length cap) ys S)∧Kept S w w':=by
 obtain ⟨hrow,hx,hSb,hIn⟩:=h.rowF
 rcases Nat.eq_zero_or_pos xs.length with h0|h0
 ·rw [h0]
  have hxs:=List.length_eq_zero_iff.1 h0
  subst hxs
  refine (AnyF.slices_SortFunc_none Tryz.srtf p cap _ w).mono ?_
  rintro e w' ⟨rfl,rfl⟩
  exact ⟨rfl,⟨[],List.Perm.refl _,.nil,h⟩,Kept.refl _ _⟩
 obtain ⟨g,c',cur,hv,hr,hn,htk⟩:=Vc hrow h0
 injection hv with hp _ hc
 subst hp hc
 obtain ⟨d,hd⟩:∃d:List FrmS,d.map (·.1)=xs:=⟨xs.attach.map fun x=>⟨x.1,(hx _ x.2).1⟩,by rw [List.map_map];exact List.attach_map_subtype_val xs⟩
 have hdl:d.length=xs.length:=by rw [←hd];simp
 have hfl:∀d:List FrmS,d.flatMap Va=(d.map (·.1)).flatMap v7:=fun d=>by
  rw [List.flatMap_map]
  rfl
 have hH:HoldsK Va 3 w g 0 d.toArray:=by
  intro j hj
  rw [size_flatK] at hj
  have hj2:j<xs.length*3:=by rw [←hdl];simpa using hj
  have hjc:j<cur.size:=by rw [hr.2.1];omega
  have e1:(flatK Va 3 d.toArray)[j]! = cur[j]:=by
   rw [getElem!_pos _ j (by rw [size_flatK];exact hj),←Array.getElem_toList]
   have e2:(flatK Va 3 d.toArray).toList=cur.toList.take (xs.length*3):=by
    rw [Vb Va 3 (by omega) (fun _=>rfl),htk,hfl,hd]
   have e3:(flatK Va 3 d.toArray).toList[j]?=cur.toList[j]?:=by
    rw [e2,List.getElem?_take,if_pos hj2]
   rw [List.getElem?_eq_getElem (by simpa using hj),List.getElem?_eq_getElem (by simpa using hjc)] at e3
   exact Option.some.inj e3
  rw [Nat.zero_add,e1,hr.cell,Array.getElem?_eq_getElem hjc]
  exact ⟨rfl,(blk hr.1).2 j⟩
 have eg:∀args w,(callFunc 98 args).run Tryz.prog w = .ok (.enter 98 args) w:=enters_of Tryz.func98 (by kernel_rfl) rfl
 have hcon:=AnyQ.slices_SortFunc Tryz.srtf 3 Tryz.isAgg142 Tryz.sizeOf142 Va (fun _=>rfl) (fun x=>Zg x.1) cmpF swoF 98 #[] g 0 cap d.toArray w eg (fun m os dk _ x y=>cmpF_any x y _) hH (Array.getElem?_eq_some_iff.1 hr.1).1 (by simp;omega)
 have hds:d.toArray.size=xs.length:=by simpa using hdl
 rw [hds] at hcon
 refine hcon.mono ?_
 rintro e w' ⟨rfl,d',n,os,hpm,hso,rfl⟩
 have heY:d'.size=xs.length:=by rw [hpm.1];exact hds
 have hperm:d'.toList.Perm d:=by
  have:=hpm.2.2
  rwa [show d'.extract 0 xs.length=d' by rw [←heY];exact Array.extract_size,show d.toArray.extract 0 xs.length=d.toArray by rw [←hds];exact Array.extract_size] at this
 have hys:(d'.toList.map (·.1)).Perm xs:=by rw [←hd];exact hperm.map _
 have hyl:(d'.toList.map (·.1)).length=xs.length:=by simpa using heY
 obtain ⟨⟨cur',hr',hnY⟩,hK⟩:=hr.sorted (l:=(flatK Va 3 d').toList) (by simp [heY];omega) n os
 have hcl:(flatK Va 3 d').toList=(d'.toList.map (·.1)).flatMap v7:=by rw [Vb Va 3 (by omega) (fun _=>rfl),hfl]
 refine ⟨rfl,⟨d'.toList.map (·.1),hys,?_,?_⟩,hK.mono fun i _ e=>hSb i (by rw [e];rfl)⟩
 ·rw [List.pairwise_map,List.pairwise_iff_getElem]
  intro i j hi hj hij
  have hi':i<d'.size:=by simpa using hi
  have hj':j<d'.size:=by simpa using hj
  have:=hso i j (Nat.zero_le _) hij (by omega)
  rw [getElem!_pos d' j hj',getElem!_pos d' i hi',ltF] at this
  simp only [decide_eq_false_iff_not,Int.not_lt] at this
  simpa using this
 refine SlO.ofRowF ?_ (fun x hx'=>hx x (hys.subset hx')) hSb (hIn.mono hK.size)
 rw [hyl]
 refine hr'.own hn (by rw [←hcl];simp [heY]) ?_
 rw [←hcl]
 have hl3:(flatK Va 3 d').toList.length=xs.length*3:=by simp [heY]
 rw [←hl3]
 exact hnY
end Go.Proofs.YtgjjhadbjmcnpaaGreatDoor
namespace Go.Proofs.YtgjjhadbjmcnpaaGreatDoor
open Go.RowKit

structure EndC (regs:Int) (nb:Nat) (x:EndL):Prop where
 kind:1≤x.kind∧x.kind≤3
 len:(x.to.length:Int)=x.kind - 1
 «to»:∀t∈x.to,1≤t∧t<(nb:Int)
 two:x.to.Nodup
 jump:x.kind=2→x.onr=false∧x.onn=0
 on:Q5 regs x.onr x.onn
structure PhiC (regs:Int) (block cnt:Nat) (p:PhiL):Prop where
 blk:block≠0
 dst:0≤p.dst∧p.dst<regs
 len:p.src.length=cnt
 src:∀v∈p.src,Q5 regs v.1 v.2

theorem valE_iff {regs:Int} {r:Bool} {n:Int}:xd regs r n=0↔Q5 regs r n:=by
 refine ⟨valE_zero,fun h=>?_⟩
 unfold xd
 rw [if_neg]
 rintro ⟨h1,h2⟩
 have:=h h1
 omega
theorem endC_iff {regs:Int} {nb:Nat} {x:EndL}:vY regs nb x.kind x.onr x.onn x.to=0↔EndC regs nb x:=by
 unfold vY
 by_cases h1:1≤x.kind∧x.kind≤3
 rotate_left
 ·rw [if_pos h1]
  exact ⟨fun g=>absurd g (by decide),fun g=>absurd g.kind h1⟩
 rw [if_neg (by simpa using h1)]
 by_cases h2:(x.to.length:Int)=x.kind - 1
 rotate_left
 ·rw [if_pos h2]
  exact ⟨fun g=>absurd g (by decide),fun g=>absurd g.len h2⟩
 rw [if_neg (by simpa using h2)]
 by_cases h3:∀t∈x.to,1≤t∧t<(nb:Int)
 ·rw [if_neg (by
   simp only [List.any_eq_true,Bool.not_eq_true',not_exists,not_and,Bool.not_eq_false,x9,decide_eq_true_eq]
   intro t ht
   have:=h3 t ht
   omega)]
  have h4:(x.kind=3∧x.to.getD 0 0=x.to.getD 1 0)↔¬ x.to.Nodup:=by
   rcases hx:x.to with _|⟨a,_|⟨b,_|⟨c,l⟩⟩⟩
   ·simp [hx] at h2 ⊢;omega
   ·simp [hx] at h2 ⊢;omega
   ·simp [hx] at h2 ⊢;omega
   simp [hx] at h2;omega
  by_cases h5:x.to.Nodup
  ·by_cases h6:x.kind=2→x.onr=false∧x.onn=0
   ·rw [if_neg (fun g=>g.elim (fun g=>h4.1 g h5) fun g=>g.2 (h6 g.1)),valE_iff]
    exact ⟨fun g=>⟨h1,h2,h3,h5,h6,g⟩,fun g=>g.on⟩
   rw [if_pos (.inr (by simpa using h6))]
   exact ⟨fun g=>absurd g (by decide),fun g=>absurd g.jump h6⟩
  rw [if_pos (.inl (h4.2 h5))]
  exact ⟨fun g=>absurd g (by decide),fun g=>absurd g.two h5⟩
 rw [if_pos (by
  refine Classical.byContradiction fun g=>h3 fun t ht=>?_
  simp only [List.any_eq_true,Bool.not_eq_true',not_exists,not_and,Bool.not_eq_false,x9,decide_eq_true_eq] at g
  have:=g t ht
  omega)]
 exact ⟨fun g=>absurd g (by decide),fun g=>absurd g.to h3⟩
theorem kR {l:List Int}:qA l=0↔∀x∈l,x=0:=⟨xl,zC⟩
theorem phiC_iff {regs:Int} {block cnt:Nat} {p:PhiL}:Zs regs block cnt p.dst p.src=0↔PhiC regs block cnt p:=by
 unfold Zs
 by_cases h1:block=0
 ·rw [if_pos h1]
  exact ⟨fun g=>absurd g (by decide),fun g=>absurd h1 g.blk⟩
 rw [if_neg h1]
 have h2:vQ regs p.dst=0↔0≤p.dst∧p.dst<regs:=by
  unfold vQ
  split
  ·exact ⟨fun _=>by omega,fun _=>rfl⟩
  exact ⟨fun g=>absurd g (by decide),fun g=>by omega⟩
 by_cases h3:vQ regs p.dst=0
 ·rw [if_neg (by simpa using h3)]
  by_cases h4:p.src.length=cnt
  ·rw [if_neg (by simpa using h4)]
   unfold valsE
   rw [kR]
   exact ⟨fun g=>⟨h1,h2.1 h3,h4,fun v hv=>valE_iff.1 (g _ (List.mem_map.2 ⟨v,hv,rfl⟩))⟩,fun g y hy=>by
    obtain ⟨v,hv,rfl⟩:=List.mem_map.1 hy
    exact valE_iff.2 (g.src v hv)⟩
  rw [if_pos h4]
  exact ⟨fun g=>absurd g (by decide),fun g=>absurd g.len h4⟩
 rw [if_pos h3]
 exact ⟨fun g=>absurd g h3,fun g=>absurd (h2.2 g.dst) h3⟩

structure FunC (nf:Nat) (P:Nat→Int) (f:FunL):Prop where
 n1:0<f.blocks.length
 n40:f.blocks.length≤40
 par:0≤f.params∧f.params≤6
 reg:f.params≤f.regs∧f.regs≤100
 many:xm f≤300
 fin:∀b (h:b<f.blocks.length),EndC f.regs f.blocks.length f.blocks[b].fin
 phi:∀b (h:b<f.blocks.length),∀p∈f.blocks[b].phis,PhiC f.regs b (insN f b).length p
 ins:∀b (h:b<f.blocks.length),∀x∈f.blocks[b].list,jK f.regs nf P x.op x.dst x.an x.bn x.fn x.ar x.br x.args=0
theorem FunC.funD {nf:Nat} {P:Nat→Int} {f:FunL} (h:FunC nf P f):FunD f:=by
 refine ⟨⟨h.n1,h.n40,fun k hk=>?_,fun k hk=>(h.fin k hk).to⟩,fun k hk=>(h.fin k hk).two⟩
 have h1:=(h.fin k hk).len
 have h2:=(h.fin k hk).kind
 omega

theorem Jn (g:Nat→Nat):∀(n:Nat) (o:List Nat),o.Nodup→(∀x∈o,x<n)→(o.map g).sum≤((List.range n).map g).sum
 | 0,o,_,h=>by
  cases o with
  | nil=>simp
  | cons x l=>have:=h x List.mem_cons_self;omega
 | n+1,o,hd,h=>by
  rw [List.range_succ,List.map_append,List.sum_append]
  by_cases hn:n∈o
  ·have h1:=Jn g n (o.erase n) (hd.erase n) (fun x hx=>by
    have h2:=hd.mem_erase_iff.1 hx
    have:=h x h2.2
    have:=h2.1
    omega)
   have h2:=((List.perm_cons_erase hn).map g).sum_nat
   rw [h2]
   simp only [List.map_cons,List.sum_cons,List.map_nil,List.sum_nil]
   omega
  have h1:=Jn g n o hd (fun x hx=>by
   have:=h x hx
   have:x≠n:=fun e=>hn (e ▸ hx)
   omega)
  omega
theorem jE (f:FunL):xm f=((List.range f.blocks.length).map fun b=>(atF f b).phis.length+(atF f b).list.length).sum:=by
 unfold xm
 congr 1
 refine List.ext_getElem (by simp) fun i h1 h2=>?_
 simp only [List.getElem_map,List.getElem_range]
 rw [qL (by simpa using h1)]
theorem many_keep {f:FunL} {o:List Nat} (h:OrdC f o):xm (zi o f)≤xm f:=by
 have h1:=Jn (fun b=>(atF f b).phis.length+(atF f b).list.length) f.blocks.length o h.once h.inb
 rw [←jE] at h1
 refine Nat.le_trans (Nat.le_of_eq ?_) h1
 unfold xm zi
 rw [List.map_map]
 congr 1
 exact List.map_congr_left fun b _=>by simp [blkK]

theorem FunC.keep {nf:Nat} {P:Nat→Int} {f:FunL} (h:FunC nf P f) {o:List Nat} (ho:OrdC f o):FunC nf P (zi o f):=by
 have hd:=h.funD
 have hk:=hd.keep ho
 have hin:∀b (hb:b<(zi o f).blocks.length),∃hb':b<o.length,∃hx:o[b]<f.blocks.length,(zi o f).blocks[b]=blkK (qB o) (insN f o[b]) f.blocks[o[b]]:=fun b hb=>by
  rw [zq] at hb
  have hx:=ho.inb _ (List.getElem_mem hb)
  exact ⟨hb,hx,by rw [QG o f hb,qL hx]⟩
 refine ⟨hk.n1,hk.n40,h.par,h.reg,Nat.le_trans (many_keep ho) h.many,fun b hb=>?_,fun b hb p hp=>?_,fun b hb x hx=>?_⟩
 ·obtain ⟨h1,h2,h3⟩:=hin b hb
  have hf:=h.fin _ h2
  have hl:(zi o f).blocks[b].fin.to.length=f.blocks[o[b]].fin.to.length:=by rw [h3];simp [blkK,endK]
  refine ⟨by rw [h3];exact hf.kind,?_,hk.tos b hb,hk.once b hb,by rw [h3];exact hf.jump,by rw [h3];exact hf.on⟩
  rw [hl,h3]
  exact hf.len
 ·obtain ⟨h1,h2,h3⟩:=hin b hb
  rw [h3] at hp
  obtain ⟨q,hq,rfl⟩:=List.mem_map.1 hp
  have hc:=h.phi _ h2 q hq
  have hmem:o[b]∈o:=List.getElem_mem h1
  have e:=Xy hd ho hmem (Q7 (insN f o[b]) q.src)
  rw [←fromR_row (hd.insD _) hc.len,ho.once.idxOf_getElem b h1] at e
  refine ⟨fun e0=>hc.blk ?_,hc.dst,?_,fun v hv=>?_⟩
  ·subst e0
   obtain ⟨l,hl⟩:=ho.root
   subst hl
   rfl
  ·show (srcK _ _ _).length=_
   rw [e,List.length_map]
  have hv:v∈srcK (qB o) (insN f o[b]) q.src:=hv
  rw [e] at hv
  obtain ⟨j,hj,rfl⟩:=List.mem_map.1 hv
  have hj2:j∈insN (zi o f) (o.idxOf o[b]):=by rw [ho.once.idxOf_getElem b h1];exact hj
  obtain ⟨g1,g2⟩:=(kw hd ho hmem).1 hj2
  obtain ⟨k1,k2⟩:=xx g2
  refine hc.src _ ?_
  unfold Q7
  have e2:o.getD j 0=o[j]:=by simp [g1]
  have hlt:(insN f o[b]).idxOf o[j]<q.src.length:=by rw [hc.len];exact k1
  rw [e2,List.getD_eq_getElem?_getD,List.getElem?_eq_getElem hlt]
  exact List.getElem_mem _
 obtain ⟨h1,h2,h3⟩:=hin b hb
 rw [h3] at hx
 exact h.ins _ h2 x hx

def atK (o:List Nat) (k j:Nat):Int:=if j∈o.take k then (o.idxOf j:Int) else -1
theorem atK_zero (o:List Nat) (j:Nat):atK o 0 j = -1:=by simp [atK]
theorem atK_full (o:List Nat) (j:Nat):atK o o.length j=qB o j:=by unfold atK qB;rw [List.take_length]
theorem atK_succ {o:List Nat} (h:o.Nodup) {k:Nat} (hk:k<o.length) (j:Nat):atK o (k+1) j=if j=o[k] then (k:Int) else atK o k j:=by
 unfold atK
 have e0:j∈o.take (k+1)↔j∈o.take k∨j=o[k]:=by
  rw [List.take_succ_eq_append_getElem hk,List.mem_append,List.mem_singleton]
 by_cases e:j=o[k]
 ·rw [if_pos e,if_pos (e0.2 (.inr e)),e,h.idxOf_getElem k hk]
 rw [if_neg e]
 by_cases g:j∈o.take k
 ·rw [if_pos g,if_pos (e0.2 (.inl g))]
 rw [if_neg g,if_neg fun x=>(e0.1 x).elim g e]

def qN {α:Type} (j:Nat) (u:α→α) (xs:List α):List α:=xs.mapIdx fun i x=>if i<j then u x else x
theorem qY {α:Type} (j:Nat) (u:α→α) (xs:List α):(qN j u xs).length=xs.length:=by simp [qN]
theorem zB {α:Type} (u:α→α) (xs:List α):qN 0 u xs=xs:=by
 refine List.ext_getElem (qY _ _ _) fun i h1 h2=>?_
 simp [qN]
theorem zl {α:Type} (u:α→α) (xs:List α):qN xs.length u xs=xs.map u:=by
 refine List.ext_getElem (by simp [qN]) fun i h1 h2=>?_
 have h3:i<xs.length:=by simpa using h2
 simp [qN,h3]
theorem x6 {α:Type} {j i:Nat} {u:α→α} {xs:List α} (hi:i<(qN j u xs).length) (h:j≤i):(qN j u xs)[i]=xs[i]'(by rw [←qY j u xs];exact hi):=by
 have h3:¬ i<j:=by omega
 simp [qN,h3]
theorem zh {α:Type} {j:Nat} {u:α→α} {xs:List α} (h:j<xs.length):(qN j u xs).set j (u xs[j])=qN (j+1) u xs:=by
 refine List.ext_getElem (by simp [qN]) fun i h1 h2=>?_
 rw [List.getElem_set]
 split
 ·next e=>subst e;simp [qN]
 next e=>
 simp only [qN,List.getElem_mapIdx]
 by_cases g:i<j
 ·rw [if_pos g,if_pos (by omega)]
 rw [if_neg g,if_neg (by omega)]

def AheadIn (W:World) (lo T:Nat) (f:FunL):Prop:=(lo≤T∧T<W.heap.size)∧∀c,c<f.blocks.length→∃q qc,W.cell? ⟨T,c,none⟩=some (.slice q (insN f c).length qc)∧∀j (h:j<(insN f c).length),∃b,q=some ⟨b,0,none⟩∧(lo≤b∧b<W.heap.size)∧W.cell? ⟨b,j,none⟩=some (.int .i64 ((insN f c)[j]:Nat))
theorem AheadIn.of {f:FunL} {W:World} {B T:Nat} {tf:Nat→Value} (h:Rows2 W B T f.blocks.length 45 3 (qT (Q3 f) f.blocks.length) tf):AheadIn W T T f:=by
 refine ⟨⟨Nat.le_refl _,h.tab.lt⟩,fun c hc=>?_⟩
 have h1:=h.row c hc
 have h2:=h.tab.cell hc
 obtain ⟨q,qc,hq⟩:=jt h1
 refine ⟨q,qc,by rw [h2,hq];rfl,fun j hj=>?_⟩
 rw [hq] at h1
 obtain ⟨b,e1,e2,e3,e4⟩:=ki h1 hj
 refine ⟨b,e1,⟨by have:=h.low;omega,e3⟩,?_⟩
 rw [e4]
 have hj2:j<(qZ (qT (Q3 f) f.blocks.length) c).length:=hj
 simp [hj2]
 rfl
theorem AheadIn.kept {U:Blks} {W W':World} {lo T:Nat} {f:FunL} (h:AheadIn W lo T f) (hk:Kept U W W') (hU:∀g,U g→g<lo∨W.heap.size≤g):AheadIn W' lo T f:=by
 obtain ⟨⟨h1,h2⟩,h3⟩:=h
 refine ⟨⟨h1,Nat.lt_of_lt_of_le h2 hk.size⟩,fun c hc=>?_⟩
 obtain ⟨q,qc,e,r⟩:=h3 c hc
 refine ⟨q,qc,(hk.cell (p:=⟨T,c,none⟩) h2 (fun hu=>by have:=hU T hu;omega)).trans e,fun j hj=>?_⟩
 obtain ⟨b,e1,⟨e2,e3⟩,e4⟩:=r j hj
 exact ⟨b,e1,⟨e2,Nat.lt_of_lt_of_le e3 hk.size⟩,(hk.cell (p:=⟨b,j,none⟩) e3 (fun hu=>by have:=hU b hu;omega)).trans e4⟩
def phiK (at_:Nat→Int) (ah:List Nat) (p:PhiL):PhiL:={ p with src:=srcK at_ ah p.src }
def rowM (at_:Nat→Int) (ah:List Nat) (src:List (Bool×Int)) (m:Nat):List FrmL:=V5 at_ (ah.take m) (src.take m)
theorem rowM_full {at_:Nat→Int} {ah:List Nat} {src:List (Bool×Int)} (h:src.length=ah.length):rowM at_ ah src src.length=V5 at_ ah src:=by
 unfold rowM
 rw [List.take_length,List.take_of_length_le (by omega)]
theorem rowM_succ {at_:Nat→Int} {ah:List Nat} {src:List (Bool×Int)} {m:Nat} (h1:m<ah.length) (h2:m<src.length):rowM at_ ah src (m+1)=rowM at_ ah src m++(if 0≤at_ ah[m] then [(at_ ah[m],src[m])] else []):=by
 unfold rowM V5
 rw [List.take_succ_eq_append_getElem h1,List.take_succ_eq_append_getElem h2,List.zip_append (by simp;omega),List.map_append,List.filter_append]
 congr 1
 by_cases h:0≤at_ ah[m]<;>simp [h]
theorem rowM_len (at_:Nat→Int) (ah:List Nat) (src:List (Bool×Int)) (m:Nat):(rowM at_ ah src m).length≤m:=by
 unfold rowM V5
 refine Nat.le_trans (List.length_filter_le _ _) ?_
 simp
 omega
theorem rowK_keys {o:List Nat} (_ho:o.Nodup) {ah:List Nat} (ha:ah.Nodup) {src:List (Bool×Int)} (h:src.length=ah.length):((V5 (qB o) ah src).map (·.1)).Nodup:=by
 rw [fromR_row ha h,V9,List.map_map]
 show ((ah.filter fun a=>decide (a∈o)).map fun a=>((o.idxOf a:Int))).Nodup
 have h1:(ah.filter fun a=>decide (a∈o)).Nodup:=ha.filter _
 unfold List.Nodup at h1 ⊢
 rw [List.pairwise_map]
 refine h1.imp_of_mem fun {a b} ma mb hne e=>hne ?_
 have xa:a∈o:=by simpa using (List.mem_filter.1 ma).2
 have xb:b∈o:=by simpa using (List.mem_filter.1 mb).2
 exact kQ xa xb (Int.ofNat.inj e)
theorem sortK_of {l m:List FrmL} (hp:m.Perm l) (hs:m.Pairwise fun a b=>a.1≤b.1) (hd:(l.map (·.1)).Nodup):sortK l=m:=by
 refine V8 hp.symm ?_
 have hd2:(m.map (·.1)).Nodup:=(hp.map (·.1)).nodup_iff.2 hd
 unfold List.Nodup at hd2
 rw [List.pairwise_map] at hd2
 exact (hs.and hd2).imp fun {a b} h=>by
  have h1:=h.1
  have h2:=h.2
  simp only [ne_eq] at h2
  omega
theorem RowPut.of_block {w w1 w2:World} {e:TypeId} {g o size:Nat} {cs:List Value} (h:RowPut w w1 e g o size cs) (h2:w2.heap[g]?=w1.heap[g]?):RowPut w w2 e g o size cs:=by
 obtain ⟨c,c',a,b,r⟩:=h
 exact ⟨c,c',a,h2.trans b,r⟩
theorem RowPut.cell {w w1:World} {e:TypeId} {g o size j:Nat} {cs:List Value} (h:RowPut w w1 e g o size cs) (hj:j<size):w1.cell? ⟨g,o+j,none⟩=cs[j]?∧w1.frozen? ⟨g,o+j,none⟩=false∧g<w1.heap.size:=by
 obtain ⟨c,c',a,b,_,r,_⟩:=h
 exact ⟨(cell_of_row w1 g _ c' e (0,0) b).trans (r j hj),(blk b).2 _,(Array.getElem?_eq_some_iff.1 b).1⟩
theorem infoFrmC:(Tryz.prog.info? 142).map (fun i=>(i.zero,i.size,i.bytes))=some (some (.agg #[.int .i64 0,.bool false,.int .i64 0]),3,24):=by kernel_rfl

theorem XA {l m:List Nat} (hl:l.Pairwise (·<·)) (hm:m.Pairwise (·<·)) (h:∀a,a∈l↔a∈m):l=m:=by
 have nd:∀{l:List Nat},l.Pairwise (·<·)→l.Nodup:=fun h=>h.imp fun h=>by omega
 exact List.Perm.eq_of_pairwise (le:=fun a b=>a<b) (fun a b _ _ h1 h2=>by omega) hl hm ((List.perm_ext_iff_of_nodup (nd hl) (nd hm)).2 h)
theorem XB (b:Nat):∀{l:List Nat},l.Pairwise (·<·)→l.take (l.filter fun a=>decide (a<b)).length=l.filter (fun a=>decide (a<b))∧l.drop (l.filter fun a=>decide (a<b)).length=l.filter fun a=>decide (b≤a)
 | [],_=>by simp
 | x::l,h=>by
  obtain ⟨h1,h2⟩:=List.pairwise_cons.1 h
  by_cases hx:x<b
  ·obtain ⟨i1,i2⟩:=XB b h2
   rw [List.filter_cons,if_pos (by simpa using hx),List.filter_cons,if_neg (by simp;omega)]
   simp only [List.length_cons,List.take_succ_cons,List.drop_succ_cons]
   exact ⟨by rw [i1],i2⟩
  have e:l.filter (fun a=>decide (a<b))=[]:=by
   rw [List.filter_eq_nil_iff]
   intro a ha
   have:=h1 a ha
   simp
   omega
  rw [List.filter_cons,if_neg (by simpa using hx),e,List.filter_cons,if_pos (by simp;omega)]
  simp only [List.length_nil,List.take_zero,List.drop_zero,true_and,List.cons.injEq]
  refine (List.filter_eq_self.2 fun a ha=>?_).symm
  have:=h1 a ha
  simp
  omega
theorem VK {b:Nat} {l:List Nat} (h:l.Pairwise (·<·)) (hb:b∉l):(l.take (l.filter fun a=>decide (a<b)).length++b::l.drop (l.filter fun a=>decide (a<b)).length).Pairwise (·<·):=by
 obtain ⟨h1,h2⟩:=XB b h
 rw [h1,h2]
 refine List.pairwise_append.2 ⟨h.filter _,List.pairwise_cons.2 ⟨fun a ha=>?_,h.filter _⟩,fun a ha c hc=>?_⟩
 ·obtain ⟨g1,g2⟩:=List.mem_filter.1 ha
  have:b≤a:=by simpa using g2
  have:a≠b:=fun e=>hb (e ▸ g1)
  omega
 have g1:a<b:=by simpa using (List.mem_filter.1 ha).2
 rcases List.mem_cons.1 hc with rfl|hc
 ·exact g1
 have:b≤c:=by simpa using (List.mem_filter.1 hc).2
 omega
theorem XC {α β:Type} (g:α→β):∀(l:List α) (i:Nat),(l.map g).eraseIdx i=(l.eraseIdx i).map g
 | [],_=>rfl
 | _::_,0=>rfl
 | x::l,i+1=>by simp [List.eraseIdx,XC g l i]
theorem erase_asc {t:Nat} {l:List Nat} (hd:l.Nodup):l.eraseIdx (l.idxOf t)=l.filter fun a=>decide (a≠t):=by
 rw [←List.erase_eq_eraseIdx_of_idxOf (a:=t) (i:=l.idxOf t) (l:=l) rfl,hd.erase_eq_filter]
 exact List.filter_congr fun a _=>by simp [bne];rfl

theorem moveR_eq {ah am:List Nat} {old now:Nat} (hs:ah.Pairwise (·<·)) (hm:am.Pairwise (·<·)) (ho:old∈ah) (hn:now∉ah) (h:∀a,a∈am↔a=now∨(a≠old∧a∈ah)) (g:Nat→Bool×Int) :
  Q6 ah old now (ah.map g)=am.map fun a=>g (if a=now then old else a):=by
 have hd:ah.Nodup:=hs.imp fun h=>by omega
 obtain ⟨L,hL⟩:∃L,L=ah.filter fun a=>decide (a≠old):=⟨_,rfl⟩
 have hLs:L.Pairwise (·<·):=by rw [hL];exact hs.filter _
 have hnL:now∉L:=fun e=>hn (by rw [hL] at e;exact (List.mem_filter.1 e).1)
 have e1:(ah.map g).eraseIdx (ah.idxOf old)=L.map g:=by rw [XC,erase_asc hd,hL]
 have e2:Xv ah old now=(L.filter fun a=>decide (a<now)).length:=by
  unfold Xv
  rw [hL,List.filter_filter]
  congr 1
  exact List.filter_congr fun a _=>by simp
 have e3:(ah.map g).getD (ah.idxOf old) (false,0)=g old:=fromR_map g ho
 have e4:am=L.take (L.filter fun a=>decide (a<now)).length++now::L.drop (L.filter fun a=>decide (a<now)).length:=by
  refine XA hm (VK hLs hnL) fun a=>?_
  rw [h,List.mem_append,List.mem_cons]
  have:a∈L↔a∈L.take (L.filter fun a=>decide (a<now)).length∨a∈L.drop (L.filter fun a=>decide (a<now)).length:=by
   rw [←List.mem_append,List.take_append_drop]
  have h2:a∈L↔a≠old∧a∈ah:=by rw [hL,List.mem_filter];simp [and_comm]
  rw [←h2,this]
  constructor
  ·rintro (g|g|g)
   ·exact .inr (.inl g)
   ·exact .inl g
   exact .inr (.inr g)
  rintro (g|g|g)
  ·exact .inr (.inl g)
  ·exact .inl g
  exact .inr (.inr g)
 have e5:∀a∈L,g (if a=now then old else a)=g a:=fun a ha=>by rw [if_neg fun (e:a=now)=>hnL (e ▸ ha)]
 unfold Q6
 rw [e1,e2,e3,e4,List.map_append,List.map_cons,if_pos rfl,←List.map_take,←List.map_drop]
 congr 1
 ·exact List.map_congr_left fun a ha=>(e5 a (List.mem_of_mem_take ha)).symm
 congr 1
 exact List.map_congr_left fun a ha=>(e5 a (List.mem_of_mem_drop ha)).symm
/-! ## joining -/

structure MayJ (f:FunL) (b t:Nat):Prop where
 hb:b<f.blocks.length
 ht:t<f.blocks.length
 «to»:tosB f.blocks b=[(t:Int)]
 ne:t≠b
 phi:f.blocks[t].phis=[]
 one:insN f t=[b]
theorem mayJ {nf:Nat} {P:Nat→Int} {f:FunL} (h:FunC nf P f) {b t:Nat} (hb:b<f.blocks.length) (hm:jq f b=some t):MayJ f b t:=by
 unfold jq at hm
 dsimp only at hm
 split at hm
 ·rename_i hc
  injection hm with hm
  obtain ⟨hk,hc⟩:=hc
  rw [qL hb] at hk hm hc
  have he:=h.fin b hb
  have hl:(f.blocks[b].fin.to).length=1:=by have:=he.len;omega
  obtain ⟨x,hx⟩:∃x,f.blocks[b].fin.to=[x]:=by
   rcases e:f.blocks[b].fin.to with _|⟨x,_|⟨y,l⟩⟩
   ·simp [e] at hl
   ·exact ⟨x,rfl⟩
   simp [e] at hl
  have hx1:=he.to x (by rw [hx];simp)
  rw [hx] at hm hc
  have hm:x.toNat=t:=hm
  have hxt:x=(t:Int):=by omega
  have ht:t<f.blocks.length:=by omega
  have hc:¬(x.toNat=b∨0<(atF f x.toNat).phis.length∨1<(insN f x.toNat).length):=hc
  rw [hm,qL ht] at hc
  have hto:tosB f.blocks b=[(t:Int)]:=by rw [zF hb,hx,hxt]
  have hbt:b∈insN f t:=h.funD.mem.2 ⟨hb,by rw [hto];simp⟩
  refine ⟨hb,ht,hto,fun e=>hc (.inl e),?_,?_⟩
  ·exact List.eq_nil_of_length_eq_zero (by omega)
  rcases e:insN f t with _|⟨y,_|⟨z,l⟩⟩
  ·rw [e] at hbt;cases hbt
  ·rw [e] at hbt;rw [List.mem_singleton.1 hbt]
  exfalso;rw [e] at hc;simp at hc
 cases hm
end Go.Proofs.YtgjjhadbjmcnpaaGreatDoor
