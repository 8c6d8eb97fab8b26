/-
  Plain: a function's blocks and their lists, apart; a block that goes into another one.
-/
import Derived.Shelf.SlSortCmp.WholeK
import Derived.Shelf.SlSortCmp.NoneTotal
import Derived.Test.YtecdphhdmjmmnaaGreatDoorGcpA
import Derived.Test.YtecdphhdmjmmnaaGreatDoorJTidP
set_option maxRecDepth 100000
set_option maxHeartbeats 16000000
namespace Go.Proofs
open Go.Shelf Go.Sort Go.RowKit Go.Lib
def Tryz.srtf_ren:Go.Shelf.Ren:=⟨fun|6=>103|15=>114|14=>127|28=>143|29=>144|20=>152|21=>153|22=>154|23=>155|24=>156|25=>157|26=>158|27=>159|46=>170|47=>163|48=>164|49=>171|50=>172|57=>175|n=>n,fun|22=>152|24=>154|25=>156|3=>3|39=>168|0=>0|53=>202|55=>204|4=>4|46=>195|45=>194|50=>191|5=>5|9=>9|66=>221|70=>225|76=>230|77=>231|n=>n,fun n=>n⟩
theorem Tryz.srtf:SlLaysF0.n6 Tryz.prog Tryz.srtf_ren where
 mixed:=by kernel_rfl
 f6 := ⟨"slices.SortFunc[[]turnery/tidy.from,turnery/tidy.from]", by decide, Tryz.func103.trans (congrArg some (by kernel_rfl))⟩
 f14 := ⟨"slices.pdqsortCmpFunc[turnery/tidy.from]", by decide, Tryz.func127.trans (congrArg some (by kernel_rfl))⟩
 f15:=Tryz.func114.trans (congrArg some (by kernel_rfl))
 f20 := ⟨"slices.insertionSortCmpFunc[turnery/tidy.from]", by decide, Tryz.func152.trans (congrArg some (by kernel_rfl))⟩
 f21 := ⟨"slices.heapSortCmpFunc[turnery/tidy.from]", by decide, Tryz.func153.trans (congrArg some (by kernel_rfl))⟩
 f22 := ⟨"slices.breakPatternsCmpFunc[turnery/tidy.from]", by decide, Tryz.func154.trans (congrArg some (by kernel_rfl))⟩
 f23 := ⟨"slices.choosePivotCmpFunc[turnery/tidy.from]", by decide, Tryz.func155.trans (congrArg some (by kernel_rfl))⟩
 f24 := ⟨"slices.reverseRangeCmpFunc[turnery/tidy.from]", by decide, Tryz.func156.trans (congrArg some (by kernel_rfl))⟩
 f25 := ⟨"slices.partialInsertionSortCmpFunc[turnery/tidy.from]", by decide, Tryz.func157.trans (congrArg some (by kernel_rfl))⟩
 f26 := ⟨"slices.partitionEqualCmpFunc[turnery/tidy.from]", by decide, Tryz.func158.trans (congrArg some (by kernel_rfl))⟩
 f27 := ⟨"slices.partitionCmpFunc[turnery/tidy.from]", by decide, Tryz.func159.trans (congrArg some (by kernel_rfl))⟩
 f28:=Tryz.func143.trans (congrArg some (by kernel_rfl))
 f29:=Tryz.func144.trans (congrArg some (by kernel_rfl))
 f46 := ⟨"slices.siftDownCmpFunc[turnery/tidy.from]", by decide, Tryz.func170.trans (congrArg some (by kernel_rfl))⟩
 f47:=Tryz.func163.trans (congrArg some (by kernel_rfl))
 f48:=Tryz.func164.trans (congrArg some (by kernel_rfl))
 f49 := ⟨"slices.medianAdjacentCmpFunc[turnery/tidy.from]", by decide, Tryz.func171.trans (congrArg some (by kernel_rfl))⟩
 f50 := ⟨"slices.medianCmpFunc[turnery/tidy.from]", by decide, Tryz.func172.trans (congrArg some (by kernel_rfl))⟩
 f57 := ⟨"slices.order2CmpFunc[turnery/tidy.from]", by decide, Tryz.func175.trans (congrArg some (by kernel_rfl))⟩
 t0:=Tryz.underlying0
 a0:=Tryz.isAgg0
 z0:=Tryz.sizeOf0
 v0:=Tryz.zeroValue0
 t3:=Tryz.underlying3
 a3:=Tryz.isAgg3
 z3:=Tryz.sizeOf3
 v3:=Tryz.zeroValue3
 t4:=Tryz.underlying4
 a4:=Tryz.isAgg4
 z4:=Tryz.sizeOf4
 v4:=Tryz.zeroValue4
 t5:=Tryz.underlying5
 a5:=Tryz.isAgg5
 z5:=Tryz.sizeOf5
 v5:=Tryz.zeroValue5
 t9:=Tryz.underlying9
 a9:=Tryz.isAgg9
 z9:=Tryz.sizeOf9
 v9:=Tryz.zeroValue9
 t22:=Tryz.underlying152
 a22:=Tryz.isAgg152
 z22:=Tryz.sizeOf152
 v22:=Tryz.zeroValue152
 t25:=Tryz.underlying156
 a25:=Tryz.isAgg156
 z25:=Tryz.sizeOf156
 v25:=Tryz.zeroValue156
 t39:=Tryz.underlying168
 a39:=Tryz.isAgg168
 z39:=Tryz.sizeOf168
 v39:=Tryz.zeroValue168
 t45:=Tryz.underlying194
 a45:=Tryz.isAgg194
 z45:=Tryz.sizeOf194
 v45:=Tryz.zeroValue194
 t46:=Tryz.underlying195
 a46:=Tryz.isAgg195
 z46:=Tryz.sizeOf195
 v46:=Tryz.zeroValue195
 t50:=Tryz.underlying191
 a50:=Tryz.isAgg191
 z50:=Tryz.sizeOf191
 v50:=Tryz.zeroValue191
 t53:=Tryz.underlying202
 a53:=Tryz.isAgg202
 z53:=Tryz.sizeOf202
 v53:=Tryz.zeroValue202
 t55:=Tryz.underlying204
 a55:=Tryz.isAgg204
 z55:=Tryz.sizeOf204
 v55:=Tryz.zeroValue204
 t66:=Tryz.underlying221
 a66:=Tryz.isAgg221
 z66:=Tryz.sizeOf221
 v66:=Tryz.zeroValue221
 t70:=Tryz.underlying225
 a70:=Tryz.isAgg225
 z70:=Tryz.sizeOf225
 v70:=Tryz.zeroValue225
 t76:=Tryz.underlying230
 a76:=Tryz.isAgg230
 z76:=Tryz.sizeOf230
 v76:=Tryz.zeroValue230
 t77:=Tryz.underlying231
 a77:=Tryz.isAgg231
 z77:=Tryz.sizeOf231
 v77:=Tryz.zeroValue231
end Go.Proofs
namespace Go.Proofs.YtecdphhdmjmmnaaGreatDoor
open Go.RowKit Go.Shelf Go.Sort

abbrev FrmL:=Int×(Bool×Int)
def FrmO:ElemO FrmL:=fun _ cs x _=>cs=[.int .i64 x.1,.bool x.2.1,.int .i64 x.2.2]∧(0≤x.1∧x.1<1000000)∧I64 x.2.2
theorem Z7:vd FrmO:=fun _ _ _ _ _ h _ _=>h
abbrev FrmS:={ x:FrmL // 0≤x.1∧x.1<1000000 }
instance:Inhabited FrmS:=⟨⟨(0,(false,0)),by decide⟩⟩
def V6 (x:FrmS):List Value:=[.int .i64 x.1.1,.bool x.1.2.1,.int .i64 x.1.2.2]
def cmpF (x y:FrmS):Int:=x.1.1 - y.1.1
theorem ltF (x y:FrmS):ltOf cmpF x y=decide (x.1.1<y.1.1):=by
 unfold ltOf cmpF
 rw[decide_eq_decide]
 omega
theorem swoF:SWO (ltOf cmpF) where
 irrefl x:=by rw[ltF];simp
 trans x y z h1 h2:=by rw[ltF]at *;simp at *;omega
 ntrans x y z h1 h2:=by rw[ltF]at *;simp at *;omega

theorem cmpF_any (x y:FrmS) (W:World):Calls Tryz.prog 104 #[.agg (V6 x).toArray,.agg (V6 y).toArray] W fun e w'=>e = .returned (.int .i64 (cmpF x y))∧∃q os',w'=grow (W.drewN q) os':=by
 obtain⟨⟨x1,x2,x3⟩,hx⟩:=x
 obtain⟨⟨y1,y2,y3⟩,hy⟩:=y
 simp only at hx hy
 have hw:IntKind.i64.wrap (x1 - y1)=x1 - y1:=by rw[IntKind.wrap_i64];omega
 unfold V6 cmpF
 go_enter Tryz.func104,Tryz.ntmps104
 go_wp2
 go_ret
 exact⟨rfl,0,_,by rw[alloc_eq_grow,alloc_eq_grow,grow_grow];rfl⟩

theorem RowAt.sorted {w:World} {e:TypeId} {g cap size:Nat} {cur:Array Value} (h:RowAt w e g cap size cur) {l:List Value} (hl:l.length≤cap*size) (q:Nat) (os:Array Obj) :
  (∃cur',RowAt (grow (putRow id (Sort.ahead w q) g 0 l.toArray) os) e g cap size cur'∧cur'.toList.take l.length=l)∧Kept (fun k=>k=g) w (grow (putRow id (Sort.ahead w q) g 0 l.toArray) os):=by
 have hg:=(Array.getElem?_eq_some_iff.1 h.1).1
 refine⟨⟨putCells id 0 l.toArray cur,⟨?_,by simpa[putCells]using h.2.1,h.2.2⟩,?_⟩,⟨rfl,rfl,rfl,?_,fun k hk hn=>?_⟩⟩
 ·unfold grow putRow mapBlock Sort.ahead
  simp only
  rw[Array.getElem?_append_left (by simpa using hg),Array.getElem?_modify,if_pos rfl,h.1]
  rfl
 ·refine List.ext_getElem? fun j=>?_
  rw[List.getElem?_take,Array.getElem?_toList]
  by_cases hj:j<l.length
  ·have hjc:j<cur.size:=by have:=h.2.1;omega
   rw[if_pos hj]
   simp only[putCells,Array.getElem?_mapIdx,Array.getElem?_eq_getElem hjc,Option.map_some]
   rw[if_pos (by simp;omega),List.getElem?_eq_getElem hj]
   simp[getElem!_pos,hj]
  rw[if_neg hj,List.getElem?_eq_none (by omega)]
 ·unfold grow putRow mapBlock Sort.ahead
  simp
 unfold grow putRow mapBlock Sort.ahead
 simp only
 rw[Array.getElem?_append_left (by simpa using hk),Array.getElem?_modify,if_neg (fun e=>hn e.symm)]

theorem ZC {α:Type} {f:α→List Value}:∀{xs:List α} {cs:Nat→List Value},(∀i (h:i<xs.length),cs i=f xs[i])→(List.range xs.length).flatMap cs=xs.flatMap f
 | [],_,_=>rfl
 | x::xs,cs,h=>by
  rw[List.length_cons,List.range_succ_eq_map,List.flatMap_cons,h 0 (by simp)]
  have ih:=ZC (xs:=xs) (cs:=fun i=>cs (i+1)) fun i hi=>by
   have:=h (i+1) (by simpa using hi)
   simpa using this
  unfold List.flatMap at ih ⊢
  rw[List.map_map]
  rw[show(List.range xs.length).map (cs∘Nat.succ)=(List.range xs.length).map (fun i=>cs (i+1))from rfl,ih]
  rfl
theorem V7 {α:Type} [Inhabited α] (enc:α→List Value) (k:Nat) (hk0:0<k) (hk:∀x,(enc x).length=k) (d:Array α):(flatK enc k d).toList=d.toList.flatMap enc:=by
 have e1:(List.range d.toList.length).flatMap (fun i=>enc d[i]!)=d.toList.flatMap enc:=ZC fun i hi=>by
  rw[getElem!_pos d i (by simpa using hi)]
  rfl
 rw[←e1]
 refine List.ext_getElem? fun t=>?_
 rcases Nat.lt_or_ge t (d.size*k)with g|g
 ·have hi:t / k<d.toList.length:=Nat.div_lt_of_lt_mul (by rw[Nat.mul_comm];simpa using g)
  have hj:=Nat.mod_lt t hk0
  have e:t=t / k*k+t % k:=by rw[Nat.mul_comm];exact(Nat.div_add_mod t k).symm
  have h2:=zj (cs:=fun i=>enc d[i]!) (size:=k) d.toList.length (fun i _=>hk _) _ _ hi hj
  rw[←e]at h2
  rw[h2,Array.getElem?_toList,Array.getElem?_eq_getElem (by simpa using g),←getElem!_pos (flatK enc k d) t (by simpa using g),get_flatK enc k d t g]
  rw[List.getElem?_eq_getElem (by rw[hk];exact hj),←getElem!_pos (enc d[t / k]!) (t % k) (by rw[hk];exact hj)]
 rw[List.getElem?_eq_none (by simpa using g),List.getElem?_eq_none (by rw[qE (size:=k) _ (fun i _=>hk _)];simpa using g)]
def jT (x:FrmL):List Value:=[.int .i64 x.1,.bool x.2.1,.int .i64 x.2.2]
def FrmH (x:FrmL):Prop:=(0≤x.1∧x.1<1000000)∧I64 x.2.2
theorem Z8 (x:FrmL):∀u∈jT x,u.oneCell'=true:=by
 intro u hu
 simp only[jT,List.mem_cons,List.not_mem_nil,or_false]at hu
 rcases hu with rfl|rfl|rfl<;>rfl
theorem SlO.rowF {w:World} {v:Value} {xs:List FrmL} {S:Blks} (h:SlO 154 3 FrmO w v xs S):w.ownsRow 0 154 3 v xs.length (xs.flatMap jT)∧(∀x∈xs,FrmH x)∧(∀g,v.ownBlock=some g→S g)∧InB w S:=by
 obtain⟨cs,T,h⟩:=h
 refine⟨?_,fun x hx=>?_,h.blk,h.inb⟩
 ·have:=h.own
  rwa [ZC (f:=jT) fun i hi=>(h.el i hi).1]at this
 obtain⟨i,hi,rfl⟩:=List.getElem_of_mem hx
 exact⟨(h.el i hi).2.1,(h.el i hi).2.2⟩
theorem SlO.ofRowF {w:World} {v:Value} {xs:List FrmL} {S:Blks} (h:w.ownsRow 0 154 3 v xs.length (xs.flatMap jT)) (hx:∀x∈xs,FrmH x) (hv:∀g,v.ownBlock=some g→S g) (hS:InB w S):SlO 154 3 FrmO w v xs S:=by
 refine⟨fun i=>jT (xs.getD i (0,false,0)),fun _ _=>False,⟨?_,fun _ _=>rfl,fun i _=>Z8 _,fun i hi=>⟨?_,(hx _ (List.getElem_mem hi)).1,(hx _ (List.getElem_mem hi)).2⟩,fun _ _ _ _ _ _ a _=>a,fun _ _ _ _ a=>a,hv,fun _ _ _ a=>a.elim,hS⟩⟩
 ·rw[ZC (f:=jT) fun i hi=>by simp[List.getD,hi]]
  exact h
 simp[jT,List.getD,hi]
theorem V8 {w:World} {e:TypeId} {size:Nat} {v:Value} {n:Nat} {xs:List Value} (h:w.ownsRow 0 e size v n xs) (hn:0<n):∃g cap cur,v = .slice (some ⟨g,0,none⟩) n cap∧RowAt w e g cap size cur∧n≤cap∧cur.toList.take (n*size)=xs:=by
 rcases h.2 with⟨_,h2⟩|⟨g,cap,cur,hv,_,hg,h1,h2,h3,h4⟩
 ·omega
 exact⟨g,cap,cur,hv,⟨hg,h3,h2⟩,h1,h4⟩

theorem XC (p:Option Addr) (cap:Nat) (xs:List FrmL) (w:World) (S:Blks) (h:SlO 154 3 FrmO w (.slice p xs.length cap) xs S) (hlen:xs.length≤100000) :
  Calls Tryz.prog 103 #[.slice p xs.length cap,.func (.func 104) #[] #[]] w fun e w'=>e = .returned (.tuple #[])∧(∃ys:List FrmL,ys.Perm xs∧ys.Pairwise (fun a b=>a.1≤b.1)∧SlO 154 3 FrmO w' (.slice p xs.length cap) ys S)∧Kept S w w':=by
 obtain⟨hrow,hx,hSb,hIn⟩:=h.rowF
 rcases Nat.eq_zero_or_pos xs.length with h0|h0
 ·rw[h0]
  have hxs:=List.length_eq_zero_iff.1 h0
  subst hxs
  refine(AnyF.slices_SortFunc_none Tryz.srtf p cap _ w).mono ?_
  rintro e w' ⟨rfl,rfl⟩
  exact⟨rfl,⟨[],List.Perm.refl _,.nil,h⟩,Kept.refl _ _⟩
 obtain⟨g,c',cur,hv,hr,hn,htk⟩:=V8 hrow h0
 injection hv with hp _ hc
 subst hp hc
 obtain⟨d,hd⟩:∃d:List FrmS,d.map (·.1)=xs:=⟨xs.attach.map fun x=>⟨x.1,(hx _ x.2).1⟩,by rw[List.map_map];exact List.attach_map_subtype_val xs⟩
 have hdl:d.length=xs.length:=by rw[←hd];simp
 have hfl:∀d:List FrmS,d.flatMap V6=(d.map (·.1)).flatMap jT:=fun d=>by
  rw[List.flatMap_map]
  rfl
 have hH:HoldsK V6 3 w g 0 d.toArray:=by
  intro j hj
  rw[size_flatK]at hj
  have hj2:j<xs.length*3:=by rw[←hdl];simpa using hj
  have hjc:j<cur.size:=by rw[hr.2.1];omega
  have e1:(flatK V6 3 d.toArray)[j]! = cur[j]:=by
   rw[getElem!_pos _ j (by rw[size_flatK];exact hj),←Array.getElem_toList]
   have e2:(flatK V6 3 d.toArray).toList=cur.toList.take (xs.length*3):=by
    rw[V7 V6 3 (by omega) (fun _=>rfl),htk,hfl,hd]
   have e3:(flatK V6 3 d.toArray).toList[j]?=cur.toList[j]?:=by
    rw[e2,List.getElem?_take,if_pos hj2]
   rw[List.getElem?_eq_getElem (by simpa using hj),List.getElem?_eq_getElem (by simpa using hjc)]at e3
   exact Option.some.inj e3
  rw[Nat.zero_add,e1,hr.cell,Array.getElem?_eq_getElem hjc]
  exact⟨rfl,(blk hr.1).2 j⟩
 have eg:∀args w,(callFunc 104 args).run Tryz.prog w = .ok (.enter 104 args) w:=enters_of Tryz.func104 (by kernel_rfl) rfl
 have hcon:=AnyQ.slices_SortFunc Tryz.srtf 3 Tryz.isAgg154 Tryz.sizeOf154 V6 (fun _=>rfl) (fun x=>Z8 x.1) cmpF swoF 104 #[] g 0 cap d.toArray w eg (fun m os dk _ x y=>cmpF_any x y _) hH (Array.getElem?_eq_some_iff.1 hr.1).1 (by simp;omega)
 have hds:d.toArray.size=xs.length:=by simpa using hdl
 rw[hds]at hcon
 refine hcon.mono ?_
 rintro e w' ⟨rfl,d',n,os,hpm,hso,rfl⟩
 have het:d'.size=xs.length:=by rw[hpm.1];exact hds
 have hperm:d'.toList.Perm d:=by
  have:=hpm.2.2
  rwa [show d'.extract 0 xs.length=d' by rw[←het];exact Array.extract_size,show d.toArray.extract 0 xs.length=d.toArray by rw[←hds];exact Array.extract_size]at this
 have hys:(d'.toList.map (·.1)).Perm xs:=by rw[←hd];exact hperm.map _
 have hyl:(d'.toList.map (·.1)).length=xs.length:=by simpa using het
 obtain⟨⟨cur',hr',hnI⟩,hK⟩:=hr.sorted (l:=(flatK V6 3 d').toList) (by simp[het];omega) n os
 have hcl:(flatK V6 3 d').toList=(d'.toList.map (·.1)).flatMap jT:=by rw[V7 V6 3 (by omega) (fun _=>rfl),hfl]
 refine⟨rfl,⟨d'.toList.map (·.1),hys,?_,?_⟩,hK.mono fun i _ e=>hSb i (by rw[e];rfl)⟩
 ·rw[List.pairwise_map,List.pairwise_iff_getElem]
  intro i j hi hj hij
  have hi':i<d'.size:=by simpa using hi
  have hj':j<d'.size:=by simpa using hj
  have:=hso i j (Nat.zero_le _) hij (by omega)
  rw[getElem!_pos d' j hj',getElem!_pos d' i hi',ltF]at this
  simp only[decide_eq_false_iff_not,Int.not_lt]at this
  simpa using this
 refine SlO.ofRowF ?_ (fun x hx'=>hx x (hys.subset hx')) hSb (hIn.mono hK.size)
 rw[hyl]
 refine hr'.own hn (by rw[←hcl];simp[het]) ?_
 rw[←hcl]
 have hl3:(flatK V6 3 d').toList.length=xs.length*3:=by simp[het]
 rw[←hl3]
 exact hnI
end Go.Proofs.YtecdphhdmjmmnaaGreatDoor
namespace Go.Proofs.YtecdphhdmjmmnaaGreatDoor
open Go.RowKit

def atK (o:List Nat) (k j:Nat):Int:=if j∈o.take k then(o.idxOf j:Int)else -1
theorem atK_zero (o:List Nat) (j:Nat):atK o 0 j = -1:=by simp[atK]
theorem atK_full (o:List Nat) (j:Nat):atK o o.length j=qt o j:=by unfold atK qt;rw[List.take_length]
theorem atK_succ {o:List Nat} (h:o.Nodup) {k:Nat} (hk:k<o.length) (j:Nat):atK o (k+1) j=if j=o[k] then(k:Int)else atK o k j:=by
 unfold atK
 have e0:j∈o.take (k+1)↔j∈o.take k∨j=o[k]:=by
  rw[List.take_succ_eq_append_getElem hk,List.mem_append,List.mem_singleton]
 by_cases e:j=o[k]
 ·rw[if_pos e,if_pos (e0.2 (.inr e)),e,h.idxOf_getElem k hk]
 rw[if_neg e]
 by_cases g:j∈o.take k
 ·rw[if_pos g,if_pos (e0.2 (.inl g))]
 rw[if_neg g,if_neg fun x=>(e0.1 x).elim g e]

def zq {α:Type} (j:Nat) (u:α→α) (xs:List α):List α:=xs.mapIdx fun i x=>if i<j then u x else x
theorem zD {α:Type} (j:Nat) (u:α→α) (xs:List α):(zq j u xs).length=xs.length:=by simp[zq]
theorem zF {α:Type} (u:α→α) (xs:List α):zq 0 u xs=xs:=by
 refine List.ext_getElem (zD _ _ _) fun i h1 h2=>?_
 simp[zq]
theorem zr {α:Type} (u:α→α) (xs:List α):zq xs.length u xs=xs.map u:=by
 refine List.ext_getElem (by simp[zq]) fun i h1 h2=>?_
 have h3:i<xs.length:=by simpa using h2
 simp[zq,h3]
theorem xB {α:Type} {j i:Nat} {u:α→α} {xs:List α} (hi:i<(zq j u xs).length) (h:j≤i):(zq j u xs)[i]=xs[i]'(by rw[←zD j u xs];exact hi):=by
 have h3:¬ i<j:=by omega
 simp[zq,h3]
theorem zh {α:Type} {j:Nat} {u:α→α} {xs:List α} (h:j<xs.length):(zq j u xs).set j (u xs[j])=zq (j+1) u xs:=by
 refine List.ext_getElem (by simp[zq]) fun i h1 h2=>?_
 rw[List.getElem_set]
 split
 ·next e=>subst e;simp[zq]
 next e=>
 simp only[zq,List.getElem_mapIdx]
 by_cases g:i<j
 ·rw[if_pos g,if_pos (by omega)]
 rw[if_neg g,if_neg (by omega)]

def AheadIn (W:World) (lo T:Nat) (f:FunL):Prop:=(lo≤T∧T<W.heap.size)∧∀c,c<f.blocks.length→∃q qc,W.cell? ⟨T,c,none⟩=some (.slice q (insN f c).length qc)∧∀j (h:j<(insN f c).length),∃b,q=some ⟨b,0,none⟩∧(lo≤b∧b<W.heap.size)∧W.cell? ⟨b,j,none⟩=some (.int .i64 ((insN f c)[j]:Nat))
theorem AheadIn.of {f:FunL} {W:World} {B T:Nat} {tf:Nat→Value} (h:Rows2 W B T f.blocks.length 44 3 (qG (ku f) f.blocks.length) tf):AheadIn W T T f:=by
 refine⟨⟨Nat.le_refl _,h.tab.lt⟩,fun c hc=>?_⟩
 have h1:=h.row c hc
 have h2:=h.tab.cell hc
 obtain⟨q,qc,hq⟩:=xU h1
 refine⟨q,qc,by rw[h2,hq];rfl,fun j hj=>?_⟩
 rw[hq]at h1
 obtain⟨b,e1,e2,e3,e4⟩:=jz h1 hj
 refine⟨b,e1,⟨by have:=h.low;omega,e3⟩,?_⟩
 rw[e4]
 have hj2:j<(qN (qG (ku f) f.blocks.length) c).length:=hj
 simp[hj2]
 rfl
theorem AheadIn.kept {U:Blks} {W W':World} {lo T:Nat} {f:FunL} (h:AheadIn W lo T f) (hk:Kept U W W') (hU:∀g,U g→g<lo∨W.heap.size≤g):AheadIn W' lo T f:=by
 obtain⟨⟨h1,h2⟩,h3⟩:=h
 refine⟨⟨h1,Nat.lt_of_lt_of_le h2 hk.size⟩,fun c hc=>?_⟩
 obtain⟨q,qc,e,r⟩:=h3 c hc
 refine⟨q,qc,(hk.cell (p:=⟨T,c,none⟩) h2 (fun hu=>by have:=hU T hu;omega)).trans e,fun j hj=>?_⟩
 obtain⟨b,e1,⟨e2,e3⟩,e4⟩:=r j hj
 exact⟨b,e1,⟨e2,Nat.lt_of_lt_of_le e3 hk.size⟩,(hk.cell (p:=⟨b,j,none⟩) e3 (fun hu=>by have:=hU b hu;omega)).trans e4⟩
def phiK (at_:Nat→Int) (ah:List Nat) (p:PhiL):PhiL:={ p with src:=srcK at_ ah p.src }
def rowM (at_:Nat→Int) (ah:List Nat) (src:List (Bool×Int)) (m:Nat):List FrmL:=JV at_ (ah.take m) (src.take m)
theorem rowM_full {at_:Nat→Int} {ah:List Nat} {src:List (Bool×Int)} (h:src.length=ah.length):rowM at_ ah src src.length=JV at_ ah src:=by
 unfold rowM
 rw[List.take_length,List.take_of_length_le (by omega)]
theorem rowM_succ {at_:Nat→Int} {ah:List Nat} {src:List (Bool×Int)} {m:Nat} (h1:m<ah.length) (h2:m<src.length):rowM at_ ah src (m+1)=rowM at_ ah src m++(if 0≤at_ ah[m] then[(at_ ah[m],src[m])] else[]):=by
 unfold rowM JV
 rw[List.take_succ_eq_append_getElem h1,List.take_succ_eq_append_getElem h2,List.zip_append (by simp;omega),List.map_append,List.filter_append]
 congr 1
 by_cases h:0≤at_ ah[m]<;>simp[h]
theorem rowM_len (at_:Nat→Int) (ah:List Nat) (src:List (Bool×Int)) (m:Nat):(rowM at_ ah src m).length≤m:=by
 unfold rowM JV
 refine Nat.le_trans (List.length_filter_le _ _) ?_
 simp
 omega
theorem rowK_keys {o:List Nat} (_ho:o.Nodup) {ah:List Nat} (ha:ah.Nodup) {src:List (Bool×Int)} (h:src.length=ah.length):((JV (qt o) ah src).map (·.1)).Nodup:=by
 rw[fromR_row ha h,JZ,List.map_map]
 show((ah.filter fun a=>decide (a∈o)).map fun a=>((o.idxOf a:Int))).Nodup
 have h1:(ah.filter fun a=>decide (a∈o)).Nodup:=ha.filter _
 unfold List.Nodup at h1 ⊢
 rw[List.pairwise_map]
 refine h1.imp_of_mem fun {a b} ma mb hne e=>hne ?_
 have xa:a∈o:=by simpa using(List.mem_filter.1 ma).2
 have xb:b∈o:=by simpa using(List.mem_filter.1 mb).2
 exact kD xa xb (Int.ofNat.inj e)
theorem sortK_of {l m:List FrmL} (hp:m.Perm l) (hs:m.Pairwise fun a b=>a.1≤b.1) (hd:(l.map (·.1)).Nodup):sortK l=m:=by
 refine JY hp.symm ?_
 have hd2:(m.map (·.1)).Nodup:=(hp.map (·.1)).nodup_iff.2 hd
 unfold List.Nodup at hd2
 rw[List.pairwise_map]at hd2
 exact(hs.and hd2).imp fun {a b} h=>by
  have h1:=h.1
  have h2:=h.2
  simp only[ne_eq]at h2
  omega
theorem RowPut.of_block {w w1 w2:World} {e:TypeId} {g o size:Nat} {cs:List Value} (h:RowPut w w1 e g o size cs) (h2:w2.heap[g]?=w1.heap[g]?):RowPut w w2 e g o size cs:=by
 obtain⟨c,c',a,b,r⟩:=h
 exact⟨c,c',a,h2.trans b,r⟩
theorem RowPut.cell {w w1:World} {e:TypeId} {g o size j:Nat} {cs:List Value} (h:RowPut w w1 e g o size cs) (hj:j<size):w1.cell? ⟨g,o+j,none⟩=cs[j]?∧w1.frozen? ⟨g,o+j,none⟩=false∧g<w1.heap.size:=by
 obtain⟨c,c',a,b,_,r,_⟩:=h
 exact⟨(cell_of_row w1 g _ c' e (0,0) b).trans (r j hj),(blk b).2 _,(Array.getElem?_eq_some_iff.1 b).1⟩
theorem infoFrmC:(Tryz.prog.info? 154).map (fun i=>(i.zero,i.size,i.bytes))=some (some (.agg #[.int .i64 0,.bool false,.int .i64 0]),3,24):=by kernel_rfl

def Jm:ElemO (Value×BlkL):=fun w cs x S=>∃v1 v3 S1 S3,cs=[v1,x.1,.int .i64 x.2.fin.kind,.bool x.2.fin.onr,.int .i64 x.2.fin.onn,v3]∧(∃p l c,x.1 = .slice p l c)∧I64 x.2.fin.kind∧I64 x.2.fin.onn∧
 SlQ 101 2 32 PhiO w v1 x.2.phis S1∧SlQ 3 1 8 Qe w v3 x.2.fin.to S3∧Apart S1 S3∧(∀k,S1 k→S k)∧∀k,S3 k→S k
theorem jf:vd Jm:=fun w w' cs x S h hk hs=>by
 obtain⟨v1,v3,S1,S3,h0,hv,h1,h2,h3,h5,a2,g1,g3⟩:=h
 exact⟨v1,v3,S1,S3,h0,hv,h1,h2,h3.loc zQ g1 hk hs,h5.loc qX g3 hk hs,a2,g1,g3⟩
def jE (V:Nat→Value) (bs:List BlkL):List (Value×BlkL):=bs.mapIdx fun i x=>(V i,x)
theorem zK (V:Nat→Value) (bs:List BlkL):(jE V bs).length=bs.length:=by simp[jE]
theorem xh {V:Nat→Value} {bs:List BlkL} {i:Nat} (h:i<(jE V bs).length):(jE V bs)[i]=(V i,bs[i]'(by rw[←zK V bs];exact h)):=by simp[jE]
theorem zipV_set {V:Nat→Value} {bs:List BlkL} {i:Nat} (x:BlkL):(jE V bs).set i (V i,x)=jE V (bs.set i x):=by
 refine List.ext_getElem (by simp[jE]) fun k h1 h2=>?_
 rw[xh h2,List.getElem_set,List.getElem_set]
 split
 ·next e=>subst e;rfl
 rw[xh]
theorem SlW.innerT {α:Type} {e:TypeId} {size:Nat} {R:ElemO α} {w w':World} {v:Value} {xs:List α} {S:Blks} {cs:Nat→List Value} {T:Nat→Blks} (h:SlW e size R w v xs S cs T) (hR:vd R) {i:Nat} (hi:i<xs.length) {x':α} (hk:Kept (T i) w w') (hr:R w' (cs i) x' (T i)):SlW e size R w' v (xs.set i x') S cs T:=by
 have hl:(xs.set i x').length=xs.length:=by simp
 refine⟨?_,?_,?_,fun m hm=>?_,?_,?_,h.blk,?_,h.inb.mono hk.size⟩
 ·rw[hl]
  refine⟨h.own.1,?_⟩
  rcases h.own.2 with h1|⟨g,cap,cur,hv,hb,hg,r⟩
  ·exact .inl h1
  exact .inr ⟨g,cap,cur,hv,hb,by rw[hk.block g (Array.getElem?_eq_some_iff.1 hg).1 (h.off i hi g (by rw[hv];rfl))];exact hg,r⟩
 ·rw[hl];exact h.len
 ·rw[hl];exact h.one
 ·have hm2:m<xs.length:=by rw[←hl];exact hm
  by_cases e1:m=i
  ·subst e1
   rw[List.getElem_set_self]
   exact hr
  rw[List.getElem_set_ne (Ne.symm e1)]
  exact hR _ _ _ _ _ (h.el m hm2) (fun k hk2=>hk.block k (h.inb k (h.sub m hm2 k hk2)) (fun hk3=>h.two m i hm2 hi e1 k hk2 hk3)) hk.size
 ·rw[hl];exact h.two
 ·rw[hl];exact h.off
 rw[hl];exact h.sub
theorem blkAtN {w w':World} {g c:Nat} {f:FunL} {V:Nat→Value} {S:Blks} {cs:Nat→List Value} {T:Nat→Blks} (h:SlW 48 6 Jm w (.slice (some ⟨g,0,none⟩) f.blocks.length c) (jE V f.blocks) S cs T) (hb:Below w.heap.size w w') (i:Nat) (hi:i<f.blocks.length):XZ w' g 0 i ((ku f).getD i []):=by
 have hi2:i<(jE V f.blocks).length:=by rw[zK];exact hi
 obtain⟨g',c',e,_,hg,hc⟩:=h.cell hi2
 have hgg:g'=g:=by
  injection e with a _ _
  injection a with a
  injection a with a
  exact a.symm
 subst hgg
 have he:=h.el i hi2
 rw[xh hi2]at he
 obtain⟨v1,v3,S1,S3,h0,⟨p,l,k,hv⟩,_,_,h3,h5,_⟩:=he
 obtain⟨p1,c1,rfl,_⟩:=h3.sl.val
 obtain⟨p3,c3,rfl,_⟩:=h5.sl.val
 rw[jZ f i hi]
 rw[h0]at hc
 dsimp only at hv hc
 rw[hv]at hc
 have hr:=h5.read (R':=ju) qX (by omega) fun _ _ _ h=>h
 have hs:SliceAt w 1 ju p3 f.blocks[i].fin.to:=by
  obtain⟨_,_,e,_,_,h⟩:=hr.outC
  cases e
  exact h
 refine⟨p1,f.blocks[i].phis.length,c1,p,l,k,f.blocks[i].fin.kind,f.blocks[i].fin.onr,f.blocks[i].fin.onn,p3,c3,?_,?_,?_,?_,?_,?_,hs.mono hb (by omega) fun _ _ h=>h⟩
 all_goals rw[Nat.zero_add]
 ·exact(hb.cell (p:=⟨g',i*6,none⟩) hg).trans (hc 0 (by omega))
 ·exact(hb.cell (p:=⟨g',i*6+1,none⟩) hg).trans (hc 1 (by omega))
 ·exact(hb.cell (p:=⟨g',i*6+2,none⟩) hg).trans (hc 2 (by omega))
 ·exact(hb.cell (p:=⟨g',i*6+3,none⟩) hg).trans (hc 3 (by omega))
 ·exact(hb.cell (p:=⟨g',i*6+4,none⟩) hg).trans (hc 4 (by omega))
 exact(hb.cell (p:=⟨g',i*6+5,none⟩) hg).trans (hc 5 (by omega))

def K9 (ah:List Nat) (old now m:Nat):Nat:=((ah.take m).filter fun a=>decide (a<now∧a≠old)).length
theorem cntR_le (ah:List Nat) (old now:Nat) {m:Nat} (_:m≤ah.length):K9 ah old now m≤m:=Nat.le_trans (List.length_filter_le _ _) (by rw[List.length_take];omega)
theorem cntR_full (ah:List Nat) (old now:Nat):K9 ah old now ah.length=Xm ah old now:=by unfold K9;rw[List.take_length];rfl
theorem cntR_succ {ah:List Nat} {old now m:Nat} (h:m<ah.length):K9 ah old now (m+1)=K9 ah old now m+if ah[m]<now∧ah[m]≠old then 1 else 0:=by
 unfold K9
 rw[List.take_succ_eq_append_getElem h,List.filter_append,List.length_append]
 congr 1
 by_cases h:ah[m]<now∧ah[m]≠old
 ·rw[if_pos h,List.filter_cons_of_pos (by simpa using h)]
  rfl
 rw[if_neg h,List.filter_cons_of_neg (by simpa using h)]
 rfl
def Z9 (ah:List Nat) (old now:Nat) (p:PhiL):PhiL:={ p with src:=kT ah old now p.src }
def XD (f:FunL) (old now i:Nat):List BlkL:=f.blocks.mapIdx fun k x=>if(k:Int)∈((atF f old).fin.to).take i then { x with phis:=x.phis.map (Z9 (insN f k) old now) } else x
theorem vw (f:FunL) (old now i:Nat):(XD f old now i).length=f.blocks.length:=by simp[XD]
theorem renK_zero (f:FunL) (old now:Nat):XD f old now 0=f.blocks:=by
 refine List.ext_getElem (vw f old now 0) fun k h1 h2=>?_
 simp[XD]
theorem renK_full (f:FunL) (old now:Nat):XD f old now ((atF f old).fin.to).length=(qJ f old now).blocks:=by
 unfold XD qJ
 rw[List.take_length]
 rfl
theorem Jn {f:FunL} {old now i k:Nat} (h:k<(XD f old now i).length):(XD f old now i)[k]=if(k:Int)∈((atF f old).fin.to).take i then { (f.blocks[k]'(by rw[←vw f old now i];exact h))with phis:=(f.blocks[k]'(by rw[←vw f old now i];exact h)).phis.map (Z9 (insN f k) old now) } else f.blocks[k]'(by rw[←vw f old now i];exact h):=by simp[XD]
theorem renK_succ {f:FunL} {old now i t:Nat} (hi:i<((atF f old).fin.to).length) (ht:((atF f old).fin.to)[i]=(t:Int)) (hd:((atF f old).fin.to).Nodup) (htl:t<f.blocks.length):(∃h,(XD f old now i)[t]'h=f.blocks[t])∧(XD f old now i).set t { f.blocks[t]with phis:=f.blocks[t].phis.map (Z9 (insN f t) old now) }=XD f old now (i+1):=by
 have hl:t<(XD f old now i).length:=by rw[vw];exact htl
 have hn:¬ (t:Int)∈((atF f old).fin.to).take i:=fun h=>by
  rw[List.mem_take_iff_getElem]at h
  obtain⟨j,hj,e⟩:=h
  rw[←ht]at e
  have h2:=congrArg ((atF f old).fin.to).idxOf e
  rw[hd.idxOf_getElem j (by omega),hd.idxOf_getElem i hi]at h2
  omega
 refine⟨⟨hl,by rw[Jn hl,if_neg hn]⟩,?_⟩
 refine List.ext_getElem (by simp[XD]) fun k h1 h2=>?_
 have h3:k<(XD f old now i).length:=by simpa using h1
 rw[List.getElem_set,Jn h2]
 have e0:(k:Int)∈((atF f old).fin.to).take (i+1)↔(k:Int)∈((atF f old).fin.to).take i∨k=t:=by
  rw[List.take_succ_eq_append_getElem hi,List.mem_append,List.mem_singleton,ht]
  constructor
  ·rintro(h|h)
   ·exact .inl h
   exact .inr (by omega)
  rintro(h|h)
  ·exact .inl h
  exact .inr (by omega)
 split
 ·next e=>
  subst e
  rw[if_pos (e0.2 (.inr rfl))]
 next e=>
 rw[Jn h3]
 by_cases g:(k:Int)∈((atF f old).fin.to).take i
 ·rw[if_pos g,if_pos (e0.2 (.inl g))]
 rw[if_neg g,if_neg fun h=>(e0.1 h).elim g (fun h=>e h.symm)]

structure ChS (w:World) (gq c:Nat) (bs:List BlkL) (V:Nat→Value) (N:Blks) (L:Nat→Blks):Prop where
 row:SlO 48 6 Jm w (.slice (some ⟨gq,0,none⟩) bs.length c) (jE V bs) N
 lst:∀i (h:i<bs.length),SlQ 53 8 80 InsO w (V i) bs[i].list (L i)
 two:∀i j,i<bs.length→j<bs.length→i≠j→Apart (L i) (L j)
 off:∀i,i<bs.length→Apart N (L i)
theorem ChS.of {w:World} {gq c:Nat} {bs:List BlkL} {S:Blks} (h:SlO 48 6 BlkO w (.slice (some ⟨gq,0,none⟩) bs.length c) bs S) (_h0:0<bs.length):∃V N L,ChS w gq c bs V N L∧(∀k,N k→S k)∧∀i,i<bs.length→∀k,L i k→S k:=by
 obtain⟨cs,T,hW⟩:=h
 have key:∀i,∃v:Value,∃A B:Blks,∀(h:i<bs.length),Jm w (cs i) (v,bs[i]) A∧SlQ 53 8 80 InsO w v bs[i].list B∧Apart A B∧(∀k,A k→T i k)∧∀k,B k→T i k:=fun i=>by
  by_cases h:i<bs.length
  ·obtain⟨v1,v2,v3,S1,S2,S3,hcs,j1,j2,h3,h4,h5,a1,a2,a3,g1,g2,g3⟩:=hW.el i h
   obtain⟨p,cc,hv,_⟩:=h4.sl.val
   exact⟨v2,fun k=>S1 k∨S3 k,S2,fun _=>⟨⟨v1,v3,S1,S3,hcs,⟨p,_,cc,hv⟩,j1,j2,h3,h5,a2,fun _ h=>.inl h,fun _ h=>.inr h⟩,h4,fun k a b=>a.elim (fun a=>a1 k a b) (fun a=>a3 k b a),fun k a=>a.elim (g1 k) (g3 k),g2⟩⟩
  exact⟨.slice none 0 0,fun _=>False,fun _=>False,fun h'=>absurd h' h⟩
 obtain⟨V,hV⟩:=Classical.axiomOfChoice key
 obtain⟨A,hA⟩:=Classical.axiomOfChoice hV
 obtain⟨L,hL⟩:=Classical.axiomOfChoice hA
 have hlen:(jE V bs).length=bs.length:=zK V bs
 refine⟨V,fun k=>k=gq∨∃i,i<bs.length∧A i k,L,⟨⟨cs,A,?_⟩,fun i h=>(hL i h).2.1,fun i j hi hj hij k a b=>hW.two i j hi hj hij k ((hL i hi).2.2.2.2 k a) ((hL j hj).2.2.2.2 k b),fun i hi k a b=>?_⟩,fun k hk=>?_,fun i hi k hk=>hW.sub i hi k ((hL i hi).2.2.2.2 k hk)⟩
 ·refine⟨?_,?_,?_,fun i hi=>?_,?_,?_,fun g hg=>.inl (Option.some.inj hg).symm,?_,?_⟩
  ·rw[hlen];exact hW.own
  ·rw[hlen];exact hW.len
  ·rw[hlen];exact hW.one
  ·rw[xh hi]
   exact(hL i (by rw[←hlen];exact hi)).1
  ·rw[hlen]
   exact fun i j hi hj hij k a b=>hW.two i j hi hj hij k ((hL i hi).2.2.2.1 k a) ((hL j hj).2.2.2.1 k b)
  ·rw[hlen]
   exact fun i hi g hg a=>hW.off i hi g hg ((hL i hi).2.2.2.1 g a)
  ·rw[hlen]
   exact fun i hi k a=>.inr ⟨i,hi,a⟩
  rintro k (rfl|⟨i,hi,a⟩)
  ·exact(hW.own.lt k rfl).2
  exact hW.inb k (hW.sub i hi k ((hL i hi).2.2.2.1 k a))
 ·rcases a with rfl|⟨j,hj,a⟩
  ·exact hW.off i hi k rfl ((hL i hi).2.2.2.2 k b)
  by_cases e:j=i
  ·subst e
   exact(hL j hj).2.2.1 k a b
  exact hW.two j i hj hi e k ((hL j hj).2.2.2.1 k a) ((hL i hi).2.2.2.2 k b)
 rcases hk with rfl|⟨i,hi,a⟩
 ·exact hW.blk k rfl
 exact hW.sub i hi k ((hL i hi).2.2.2.1 k a)
theorem ChS.to {w:World} {gq c:Nat} {bs:List BlkL} {V:Nat→Value} {N:Blks} {L:Nat→Blks} (h:ChS w gq c bs V N L):SlO 48 6 BlkO w (.slice (some ⟨gq,0,none⟩) bs.length c) bs (fun k=>N k∨∃i,i<bs.length∧L i k):=by
 obtain⟨⟨cs,T,hW⟩,hl,h2,ho⟩:=h
 have hlen:(jE V bs).length=bs.length:=zK V bs
 have hT:∀i,i<bs.length→∀k,T i k→N k:=fun i hi=>hW.sub i (by rw[hlen];exact hi)
 have hfL:=hW.two
 have hoff:=hW.off
 have hown:=hW.own
 have hle:=hW.len
 have hone:=hW.one
 rw[hlen]at hfL hoff hown hle hone
 refine⟨cs,fun i k=>T i k∨L i k,⟨hown,hle,hone,fun i hi=>?_,fun i j hi hj hij k a b=>?_,fun i hi g hg a=>?_,fun g hg=>.inl (hW.blk g hg),fun i hi k a=>?_,?_⟩⟩
 ·have hi2:i<(jE V bs).length:=by rw[hlen];exact hi
  have he:=hW.el i hi2
  rw[xh hi2]at he
  obtain⟨v1,v3,S1,S3,hcs,_,j1,j2,h3,h5,a2,g1,g3⟩:=he
  exact⟨v1,V i,v3,S1,L i,S3,hcs,j1,j2,h3,hl i hi,h5,fun k a b=>ho i hi k (hT i hi k (g1 k a)) b,a2,fun k a b=>ho i hi k (hT i hi k (g3 k b)) a,fun k a=>.inl (g1 k a),fun k a=>.inr a,fun k a=>.inl (g3 k a)⟩
 ·rcases a with a|a<;>rcases b with b|b
  ·exact hfL i j hi hj hij k a b
  ·exact ho j hj k (hT i hi k a) b
  ·exact ho i hi k (hT j hj k b) a
  exact h2 i j hi hj hij k a b
 ·rcases a with a|a
  ·exact hoff i hi g hg a
  exact ho i hi g (hW.blk g hg) a
 ·rcases a with a|a
  ·exact .inl (hT i hi k a)
  exact .inr ⟨i,hi,a⟩
 rintro k (a|⟨i,hi,a⟩)
 ·exact hW.inb k a
 exact(hl i hi).sl.inb k a
theorem ChS.kept {U:Blks} {w w':World} {gq c:Nat} {bs:List BlkL} {V:Nat→Value} {N:Blks} {L:Nat→Blks} (h:ChS w gq c bs V N L) (hk:Kept U w w') (hN:Apart U N) (hL:∀i,i<bs.length→Apart U (L i)):ChS w' gq c bs V N L:=
 ⟨h.row.kept jf hk hN,fun i hi=>⟨(h.lst i hi).sl.kept qU hk (hL i hi),(h.lst i hi).bd⟩,h.two,h.off⟩
theorem ChS.below {w w':World} {gq c:Nat} {bs:List BlkL} {V:Nat→Value} {N:Blks} {L:Nat→Blks} (h:ChS w gq c bs V N L) (hb:Below w.heap.size w w'):ChS w' gq c bs V N L:=h.kept (U:=fun _=>False) (Kept.of_below hb) (fun _ a _=>a) (fun _ _ _ a _=>a)
theorem Za:∀{l:List Nat} {x:Nat},x∈l→x≤l.sum
 | y::l,x,h=>by
  rw[List.sum_cons]
  rcases List.mem_cons.1 h with rfl|h
  ·omega
  have:=Za h
  omega
theorem Qy {f:FunL} {b:Nat} (h:b<f.blocks.length):f.blocks[b].list.length≤z6 f:=by
 rw[jB]
 have:=Za (l:=(List.range f.blocks.length).map fun b=>(atF f b).phis.length+(atF f b).list.length) (List.mem_map.2 ⟨b,List.mem_range.2 h,rfl⟩)
 rw[qD h]at this
 omega
theorem ChS.at {w:World} {gq c:Nat} {bs:List BlkL} {V:Nat→Value} {N:Blks} {L:Nat→Blks} (h:ChS w gq c bs V N L) {i:Nat} (hi:i<bs.length):∃q1 d1 p2 d2 q3 d3,V i = .slice p2 bs[i].list.length d2∧(∀j,j<6→w.cell? ⟨gq,i*6+j,none⟩=[Value.slice q1 bs[i].phis.length d1,.slice p2 bs[i].list.length d2,.int .i64 bs[i].fin.kind,.bool bs[i].fin.onr,.int .i64 bs[i].fin.onn,.slice q3 bs[i].fin.to.length d3][j]?)∧N gq∧gq<w.heap.size∧(∀o,w.frozen? ⟨gq,o,none⟩=false)∧
  SliceAt w 1 ju q3 bs[i].fin.to:=by
 obtain⟨p2,d2,hv,_⟩:=(h.lst i hi).sl.val
 have hi2:i<(jE V bs).length:=by rw[zK];exact hi
 obtain⟨g,cc,cs,T,hgv,hg,hS,hl,hx,_,_,hc,hf,_⟩:=h.row.focus jf (by omega) hi2
 have hgg:g=gq:=by
  injection hgv with a _ _
  injection a with a
  injection a with a
  exact a.symm
 subst hgg
 rw[xh hi2]at hx
 obtain⟨v1,v3,S1,S3,rfl,_,_,_,h3,h5,_⟩:=hx
 obtain⟨q1,d1,rfl,_⟩:=h3.sl.val
 obtain⟨q3,d3,rfl,_⟩:=h5.sl.val
 dsimp only at hc h5
 rw[hv]at hc
 have hr:=h5.read (R':=ju) qX (by omega) fun _ _ _ h=>h
 refine⟨q1,d1,p2,d2,q3,d3,hv,hc,hS,hg,hf,?_⟩
 obtain⟨_,_,e,_,_,hh⟩:=hr.outC
 cases e
 exact hh
end Go.Proofs.YtecdphhdmjmmnaaGreatDoor
