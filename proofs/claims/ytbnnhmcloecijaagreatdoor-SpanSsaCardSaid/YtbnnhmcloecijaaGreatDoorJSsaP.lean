/-
  Plain: which registers a function writes, and where; what it takes, and where.
-/
import Derived.Shelf.SlSortCmp.WholeK
import Derived.Shelf.SlSortCmp.NoneTotal
import Derived.Test.YtbnnhmcloecijaaGreatDoorJTidD
set_option maxRecDepth 100000
set_option maxHeartbeats 16000000
namespace Go.Proofs
open Go.Shelf Go.Sort Go.RowKit Go.Lib
def Tryz.srtf_ren:Go.Shelf.Ren:=⟨fun|6=>113|15=>145|14=>144|28=>160|29=>161|20=>152|21=>153|22=>154|23=>155|24=>156|25=>157|26=>158|27=>159|46=>167|47=>168|48=>169|49=>170|50=>171|57=>174|n=>n,fun|22=>169|24=>171|25=>173|3=>3|39=>149|0=>0|53=>193|55=>196|4=>4|46=>215|45=>214|50=>136|5=>5|9=>9|66=>223|70=>227|76=>231|77=>232|n=>n,fun n=>n⟩
theorem Tryz.srtf:SlLaysF0.n6 Tryz.prog Tryz.srtf_ren where
 mixed:=by kernel_rfl
 f6 := ⟨"slices.SortFunc[[]turnery/tidy.from,turnery/tidy.from]", by decide, Tryz.func113.trans (congrArg some (by kernel_rfl))⟩
 f14 := ⟨"slices.pdqsortCmpFunc[turnery/tidy.from]", by decide, Tryz.func144.trans (congrArg some (by kernel_rfl))⟩
 f15:=Tryz.func145.trans (congrArg some (by kernel_rfl))
 f20 := ⟨"slices.insertionSortCmpFunc[turnery/tidy.from]", by decide, Tryz.func152.trans (congrArg some (by kernel_rfl))⟩
 f21 := ⟨"slices.heapSortCmpFunc[turnery/tidy.from]", by decide, Tryz.func153.trans (congrArg some (by kernel_rfl))⟩
 f22 := ⟨"slices.breakPatternsCmpFunc[turnery/tidy.from]", by decide, Tryz.func154.trans (congrArg some (by kernel_rfl))⟩
 f23 := ⟨"slices.choosePivotCmpFunc[turnery/tidy.from]", by decide, Tryz.func155.trans (congrArg some (by kernel_rfl))⟩
 f24 := ⟨"slices.reverseRangeCmpFunc[turnery/tidy.from]", by decide, Tryz.func156.trans (congrArg some (by kernel_rfl))⟩
 f25 := ⟨"slices.partialInsertionSortCmpFunc[turnery/tidy.from]", by decide, Tryz.func157.trans (congrArg some (by kernel_rfl))⟩
 f26 := ⟨"slices.partitionEqualCmpFunc[turnery/tidy.from]", by decide, Tryz.func158.trans (congrArg some (by kernel_rfl))⟩
 f27 := ⟨"slices.partitionCmpFunc[turnery/tidy.from]", by decide, Tryz.func159.trans (congrArg some (by kernel_rfl))⟩
 f28:=Tryz.func160.trans (congrArg some (by kernel_rfl))
 f29:=Tryz.func161.trans (congrArg some (by kernel_rfl))
 f46 := ⟨"slices.siftDownCmpFunc[turnery/tidy.from]", by decide, Tryz.func167.trans (congrArg some (by kernel_rfl))⟩
 f47:=Tryz.func168.trans (congrArg some (by kernel_rfl))
 f48:=Tryz.func169.trans (congrArg some (by kernel_rfl))
 f49 := ⟨"slices.medianAdjacentCmpFunc[turnery/tidy.from]", by decide, Tryz.func170.trans (congrArg some (by kernel_rfl))⟩
 f50 := ⟨"slices.medianCmpFunc[turnery/tidy.from]", by decide, Tryz.func171.trans (congrArg some (by kernel_rfl))⟩
 f57 := ⟨"slices.order2CmpFunc[turnery/tidy.from]", by decide, Tryz.func174.trans (congrArg some (by kernel_rfl))⟩
 t0:=Tryz.underlying0
 a0:=Tryz.isAgg0
 z0:=Tryz.sizeOf0
 v0:=Tryz.zeroValue0
 t3:=Tryz.underlying3
 a3:=Tryz.isAgg3
 z3:=Tryz.sizeOf3
 v3:=Tryz.zeroValue3
 t4:=Tryz.underlying4
 a4:=Tryz.isAgg4
 z4:=Tryz.sizeOf4
 v4:=Tryz.zeroValue4
 t5:=Tryz.underlying5
 a5:=Tryz.isAgg5
 z5:=Tryz.sizeOf5
 v5:=Tryz.zeroValue5
 t9:=Tryz.underlying9
 a9:=Tryz.isAgg9
 z9:=Tryz.sizeOf9
 v9:=Tryz.zeroValue9
 t22:=Tryz.underlying169
 a22:=Tryz.isAgg169
 z22:=Tryz.sizeOf169
 v22:=Tryz.zeroValue169
 t25:=Tryz.underlying173
 a25:=Tryz.isAgg173
 z25:=Tryz.sizeOf173
 v25:=Tryz.zeroValue173
 t39:=Tryz.underlying149
 a39:=Tryz.isAgg149
 z39:=Tryz.sizeOf149
 v39:=Tryz.zeroValue149
 t45:=Tryz.underlying214
 a45:=Tryz.isAgg214
 z45:=Tryz.sizeOf214
 v45:=Tryz.zeroValue214
 t46:=Tryz.underlying215
 a46:=Tryz.isAgg215
 z46:=Tryz.sizeOf215
 v46:=Tryz.zeroValue215
 t50:=Tryz.underlying136
 a50:=Tryz.isAgg136
 z50:=Tryz.sizeOf136
 v50:=Tryz.zeroValue136
 t53:=Tryz.underlying193
 a53:=Tryz.isAgg193
 z53:=Tryz.sizeOf193
 v53:=Tryz.zeroValue193
 t55:=Tryz.underlying196
 a55:=Tryz.isAgg196
 z55:=Tryz.sizeOf196
 v55:=Tryz.zeroValue196
 t66:=Tryz.underlying223
 a66:=Tryz.isAgg223
 z66:=Tryz.sizeOf223
 v66:=Tryz.zeroValue223
 t70:=Tryz.underlying227
 a70:=Tryz.isAgg227
 z70:=Tryz.sizeOf227
 v70:=Tryz.zeroValue227
 t76:=Tryz.underlying231
 a76:=Tryz.isAgg231
 z76:=Tryz.sizeOf231
 v76:=Tryz.zeroValue231
 t77:=Tryz.underlying232
 a77:=Tryz.isAgg232
 z77:=Tryz.sizeOf232
 v77:=Tryz.zeroValue232
end Go.Proofs
namespace Go.Proofs.YtbnnhmcloecijaaGreatDoor
open Go.RowKit Go.Shelf Go.Sort

abbrev FrmL:=Int×(Bool×Int)
def FrmO:ElemO FrmL:=fun _ cs x _=>cs=[.int .i64 x.1,.bool x.2.1,.int .i64 x.2.2]∧(0≤x.1∧x.1<1000000)∧I64 x.2.2
theorem XM:Qc FrmO:=fun _ _ _ _ _ h _ _=>h
abbrev FrmS:={ x:FrmL // 0≤x.1∧x.1<1000000 }
instance:Inhabited FrmS:=⟨⟨(0,(false,0)),by decide⟩⟩
def Yk (x:FrmS):List Value:=[.int .i64 x.1.1,.bool x.1.2.1,.int .i64 x.1.2.2]
def cmpF (x y:FrmS):Int:=x.1.1 - y.1.1
theorem ltF (x y:FrmS):ltOf cmpF x y=decide (x.1.1<y.1.1):=by
 unfold ltOf cmpF
 rw [decide_eq_decide]
 omega
theorem swoF:SWO (ltOf cmpF) where
 irrefl x:=by rw [ltF];simp
 trans x y z h1 h2:=by rw [ltF] at *;simp at *;omega
 ntrans x y z h1 h2:=by rw [ltF] at *;simp at *;omega

theorem cmpF_any (x y:FrmS) (W:World):Calls Tryz.prog 114 #[.agg (Yk x).toArray,.agg (Yk y).toArray] W fun e w'=>e = .returned (.int .i64 (cmpF x y))∧∃q os',w'=grow (W.drewN q) os':=by
 obtain ⟨⟨x1,x2,x3⟩,hx⟩:=x
 obtain ⟨⟨y1,y2,y3⟩,hy⟩:=y
 simp only at hx hy
 have hw:IntKind.i64.wrap (x1 - y1)=x1 - y1:=by rw [xI];omega
 unfold Yk cmpF
 go_enter Tryz.func114,Tryz.ntmps114
 go_wp2
 go_ret
 exact ⟨rfl,0,_,by rw [alloc_eq_grow,alloc_eq_grow,grow_grow];rfl⟩

theorem RowAt.sorted {w:World} {e:TypeId} {g cap size:Nat} {cur:Array Value} (h:RowAt w e g cap size cur) {l:List Value} (hl:l.length≤cap*size) (q:Nat) (os:Array Obj) :
  (∃cur',RowAt (grow (putRow id (Sort.ahead w q) g 0 l.toArray) os) e g cap size cur'∧cur'.toList.take l.length=l)∧Kept (fun k=>k=g) w (grow (putRow id (Sort.ahead w q) g 0 l.toArray) os):=by
 have hg:=(yL.1 h.1).1
 refine ⟨⟨putCells id 0 l.toArray cur,⟨?_,by simpa [putCells] using h.2.1,h.2.2⟩,?_⟩,⟨rfl,rfl,rfl,?_,fun k hk hn=>?_⟩⟩
 ·unfold grow putRow mapBlock Sort.ahead
  simp only
  rw [Array.getElem?_append_left (by simpa using hg),Array.getElem?_modify,zZ rfl,h.1]
  rfl
 ·refine List.ext_getElem? fun j=>?_
  rw [List.getElem?_take,xJ]
  by_cases hj:j<l.length
  ·have hjc:j<cur.size:=by have:=h.2.1;omega
   rw [zZ hj]
   simp only [putCells,Array.getElem?_mapIdx,Array.getElem?_eq_getElem hjc,Option.map_some]
   rw [zZ (by simp;omega),zj hj]
   simp [getElem!_pos,hj]
  rw [zQ hj,yk (by omega)]
 ·unfold grow putRow mapBlock Sort.ahead
  simp
 unfold grow putRow mapBlock Sort.ahead
 simp only
 rw [Array.getElem?_append_left (by simpa using hk),Array.getElem?_modify,zQ (fun e=>hn e.symm)]

theorem Js {α:Type} {f:α→List Value}:∀{xs:List α} {cs:Nat→List Value},(∀i (h:i<xs.length),cs i=f xs[i])→(List.range xs.length).flatMap cs=xs.flatMap f
 | [],_,_=>rfl
 | x::xs,cs,h=>by
  rw [yi,List.range_succ_eq_map,List.flatMap_cons,h 0 (by simp)]
  have ih:=Js (xs:=xs) (cs:=fun i=>cs (i+1)) fun i hi=>by
   have:=h (i+1) (by simpa using hi)
   simpa using this
  unfold List.flatMap at ih ⊢
  rw [yy]
  rw [show (List.range xs.length).map (cs∘Nat.succ)=(List.range xs.length).map (fun i=>cs (i+1)) from rfl,ih]
  rfl
theorem Yl {α:Type} [Inhabited α] (enc:α→List Value) (k:Nat) (hk0:0<k) (hk:∀x,(enc x).length=k) (d:Array α):(flatK enc k d).toList=d.toList.flatMap enc:=by
 have e1:(List.range d.toList.length).flatMap (fun i=>enc d[i]!)=d.toList.flatMap enc:=Js fun i hi=>by
  rw [getElem!_pos d i (by simpa using hi)]
  rfl
 rw [←e1]
 refine List.ext_getElem? fun t=>?_
 rcases yq t (d.size*k) with g|g
 ·have hi:t / k<d.toList.length:=Nat.div_lt_of_lt_mul (by rw [Nat.mul_comm];simpa using g)
  have hj:=Nat.mod_lt t hk0
  have e:t=t / k*k+t % k:=by rw [Nat.mul_comm];exact (Nat.div_add_mod t k).symm
  have h2:=xQ (cs:=fun i=>enc d[i]!) (size:=k) d.toList.length (fun i _=>hk _) _ _ hi hj
  rw [←e] at h2
  rw [h2,xJ,Array.getElem?_eq_getElem (by simpa using g),←getElem!_pos (flatK enc k d) t (by simpa using g),get_flatK enc k d t g]
  rw [zj (by rw [hk];exact hj),←getElem!_pos (enc d[t / k]!) (t % k) (by rw [hk];exact hj)]
 rw [yk (by simpa using g),yk (by rw [qZ (size:=k) _ (fun i _=>hk _)];simpa using g)]
def kC (x:FrmL):List Value:=[.int .i64 x.1,.bool x.2.1,.int .i64 x.2.2]
def FrmH (x:FrmL):Prop:=(0≤x.1∧x.1<1000000)∧I64 x.2.2
theorem XN (x:FrmL):∀u∈kC x,u.oneCell'=true:=by
 intro u hu
 simp only [kC,yC,yG,yl] at hu
 rcases hu with rfl|rfl|rfl<;>rfl
theorem SlO.rowF {w:World} {v:Value} {xs:List FrmL} {S:Blks} (h:SlO 171 3 FrmO w v xs S):w.ownsRow 0 171 3 v xs.length (xs.flatMap kC)∧(∀x∈xs,FrmH x)∧(∀g,v.ownBlock=some g→S g)∧InB w S:=by
 obtain ⟨cs,T,h⟩:=h
 refine ⟨?_,fun x hx=>?_,h.blk,h.inb⟩
 ·have:=h.own
  rwa [Js (f:=kC) fun i hi=>(h.el i hi).1] at this
 obtain ⟨i,hi,rfl⟩:=yX hx
 exact ⟨(h.el i hi).2.1,(h.el i hi).2.2⟩
theorem SlO.ofRowF {w:World} {v:Value} {xs:List FrmL} {S:Blks} (h:w.ownsRow 0 171 3 v xs.length (xs.flatMap kC)) (hx:∀x∈xs,FrmH x) (hv:∀g,v.ownBlock=some g→S g) (hS:InB w S):SlO 171 3 FrmO w v xs S:=by
 refine ⟨fun i=>kC (xs.getD i (0,false,0)),fun _ _=>False,⟨?_,fun _ _=>rfl,fun i _=>XN _,fun i hi=>⟨?_,(hx _ (zP hi)).1,(hx _ (zP hi)).2⟩,fun _ _ _ _ _ _ a _=>a,fun _ _ _ _ a=>a,hv,fun _ _ _ a=>a.elim,hS⟩⟩
 ·rw [Js (f:=kC) fun i hi=>by simp [List.getD,hi]]
  exact h
 simp [kC,List.getD,hi]
theorem Jt {w:World} {e:TypeId} {size:Nat} {v:Value} {n:Nat} {xs:List Value} (h:w.ownsRow 0 e size v n xs) (hn:0<n):∃g cap cur,v = .slice (some ⟨g,0,none⟩) n cap∧RowAt w e g cap size cur∧n≤cap∧cur.toList.take (n*size)=xs:=by
 rcases h.2 with ⟨_,h2⟩|⟨g,cap,cur,hv,_,hg,h1,h2,h3,h4⟩
 ·omega
 exact ⟨g,cap,cur,hv,⟨hg,h3,h2⟩,h1,h4⟩

theorem Vq (p:Option Addr) (cap:Nat) (xs:List FrmL) (w:World) (S:Blks) (h:SlO 171 3 FrmO w (.slice p xs.length cap) xs S) (hlen:xs.length≤100000) :
  Calls Tryz.prog 113 #[.slice p xs.length cap,.func (.func 114) #[] #[]] w fun e w'=>e = .returned (.tuple #[])∧(∃ys:List FrmL,ys.Perm xs∧ys.Pairwise (fun a b=>a.1≤b.1)∧SlO 171 3 FrmO w' (.slice p xs.length cap) ys S)∧Kept S w w':=by
 obtain ⟨hrow,hx,hSb,hIn⟩:=h.rowF
 rcases Nat.eq_zero_or_pos xs.length with h0|h0
 ·rw [h0]
  have hxs:=yd.1 h0
  subst hxs
  refine (AnyF.slices_SortFunc_none Tryz.srtf p cap _ w).mono ?_
  rintro e w' ⟨rfl,rfl⟩
  exact ⟨rfl,⟨[],List.Perm.refl _,.nil,h⟩,Kept.refl _ _⟩
 obtain ⟨g,c',cur,hv,hr,hn,htk⟩:=Jt hrow h0
 injection hv with hp _ hc
 subst hp hc
 obtain ⟨d,hd⟩:∃d:List FrmS,d.map (·.1)=xs:=⟨xs.attach.map fun x=>⟨x.1,(hx _ x.2).1⟩,by rw [yy];exact List.attach_map_subtype_val xs⟩
 have hdl:d.length=xs.length:=by rw [←hd];simp
 have hfl:∀d:List FrmS,d.flatMap Yk=(d.map (·.1)).flatMap kC:=fun d=>by
  rw [List.flatMap_map]
  rfl
 have hH:HoldsK Yk 3 w g 0 d.toArray:=by
  intro j hj
  rw [size_flatK] at hj
  have hj2:j<xs.length*3:=by rw [←hdl];simpa using hj
  have hjc:j<cur.size:=by rw [hr.2.1];omega
  have e1:(flatK Yk 3 d.toArray)[j]! = cur[j]:=by
   rw [getElem!_pos _ j (by rw [size_flatK];exact hj),←Array.getElem_toList]
   have e2:(flatK Yk 3 d.toArray).toList=cur.toList.take (xs.length*3):=by
    rw [Yl Yk 3 (by omega) (fun _=>rfl),htk,hfl,hd]
   have e3:(flatK Yk 3 d.toArray).toList[j]?=cur.toList[j]?:=by
    rw [e2,List.getElem?_take,zZ hj2]
   rw [zj (by simpa using hj),zj (by simpa using hjc)] at e3
   exact Option.some.inj e3
  rw [yx,e1,hr.cell,Array.getElem?_eq_getElem hjc]
  exact ⟨rfl,(blk hr.1).2 j⟩
 have eg:∀args w,(callFunc 114 args).run Tryz.prog w = .ok (.enter 114 args) w:=enters_of Tryz.func114 (by kernel_rfl) rfl
 have hcon:=AnyQ.slices_SortFunc Tryz.srtf 3 Tryz.isAgg171 Tryz.sizeOf171 Yk (fun _=>rfl) (fun x=>XN x.1) cmpF swoF 114 #[] g 0 cap d.toArray w eg (fun m os dk _ x y=>cmpF_any x y _) hH (yL.1 hr.1).1 (by simp;omega)
 have hds:d.toArray.size=xs.length:=by simpa using hdl
 rw [hds] at hcon
 refine hcon.mono ?_
 rintro e w' ⟨rfl,d',n,os,hpm,hso,rfl⟩
 have hfH:d'.size=xs.length:=by rw [hpm.1];exact hds
 have hperm:d'.toList.Perm d:=by
  have:=hpm.2.2
  rwa [show d'.extract 0 xs.length=d' by rw [←hfH];exact Array.extract_size,show d.toArray.extract 0 xs.length=d.toArray by rw [←hds];exact Array.extract_size] at this
 have hys:(d'.toList.map (·.1)).Perm xs:=by rw [←hd];exact hperm.map _
 have hyl:(d'.toList.map (·.1)).length=xs.length:=by simpa using hfH
 obtain ⟨⟨cur',hr',hpX⟩,hK⟩:=hr.sorted (l:=(flatK Yk 3 d').toList) (by simp [hfH];omega) n os
 have hcl:(flatK Yk 3 d').toList=(d'.toList.map (·.1)).flatMap kC:=by rw [Yl Yk 3 (by omega) (fun _=>rfl),hfl]
 refine ⟨rfl,⟨d'.toList.map (·.1),hys,?_,?_⟩,hK.mono fun i _ e=>hSb i (by rw [e];rfl)⟩
 ·rw [List.pairwise_map,List.pairwise_iff_getElem]
  intro i j hi hj hij
  have hi':i<d'.size:=by simpa using hi
  have hj':j<d'.size:=by simpa using hj
  have:=hso i j (Nat.zero_le _) hij (by omega)
  rw [getElem!_pos d' j hj',getElem!_pos d' i hi',ltF] at this
  simp only [xA,Int.not_lt] at this
  simpa using this
 refine SlO.ofRowF ?_ (fun x hx'=>hx x (hys.subset hx')) hSb (hIn.mono hK.size)
 rw [hyl]
 refine hr'.own hn (by rw [←hcl];simp [hfH]) ?_
 rw [←hcl]
 have hl3:(flatK Yk 3 d').toList.length=xs.length*3:=by simp [hfH]
 rw [←hl3]
 exact hpX
end Go.Proofs.YtbnnhmcloecijaaGreatDoor
namespace Go.Proofs.YtbnnhmcloecijaaGreatDoor
open Go.RowKit

structure TreeW (w:World) (U P n:Nat) (t:TypeId) (u:Nat→Int) (pl:Nat→Nat):Prop where
 up:w.rowIs U t n (fun j=>.int .i64 (u j))
 at_:w.rowIs P t n (fun j=>.int .i64 (pl j))

theorem kS {w w':World} {b:Nat} {t:TypeId} {n:Nat} {f:Nat→Value} (h:w.rowIs b t n f) (hb:Below w.heap.size w w'):w'.rowIs b t n f:=h.of_block (hb.block b h.lt)
theorem TreeW.below {w w':World} {U P n:Nat} {t:TypeId} {u:Nat→Int} {pl:Nat→Nat} (h:TreeW w U P n t u pl) (hb:Below w.heap.size w w'):TreeW w' U P n t u pl:=⟨kS h.up hb,kS h.at_ hb⟩
theorem mq {up pl:Nat→Nat} (k a b:Nat):Q3 up pl (k+1) a b=if a=b then a else if pl a<pl b then Q3 up pl k (up b) a else Q3 up pl k (up a) b:=rfl
theorem meet_any {w:World} {U P n:Nat} {u:Nat→Int} {pl:Nat→Nat} {R:Nat→Prop} (hT:TreeW w U P n 3 u pl) (h:DomI R pl (mkN u) (upN u)) (hn:∀c,R c→c<n) (a b:Nat) (ha:mkN u a) (hb:mkN u b) :
  Calls Tryz.prog 100 #[.slice (some ⟨U,0,none⟩) n n,.slice (some ⟨P,0,none⟩) n n,.int .i64 a,.int .i64 b] w fun e w'=>e = .returned (.int .i64 (Q3 (upN u) pl (pl a+pl b+1) a b:Nat))∧Below w.heap.size w w':=by
 have HT:=q7 hT
 have HI:=q7 h
 have HN:=q7 hn
 have HA:=q7 ha
 have HB:=q7 hb
 clear hT h hn ha hb
 go_enter Tryz.func100,Tryz.ntmps100
 go_wp2
 go_loopw [2,3] (fun x y wr=>∃(k c d:Nat),x = .int .i64 c∧y = .int .i64 d∧mkN u c∧mkN u d∧pl c+pl d<k∧Q3 (upN u) pl k c d=Q3 (upN u) pl (pl a+pl b+1) a b∧Below w.heap.size w wr) (fun x y _=>pl (intOf x).toNat+pl (intOf y).toNat)
 case atStart=>exact ⟨_,a,b,rfl,rfl,HA.out,HB.out,by omega,rfl,zI _ _⟩
 case round=>
  obtain ⟨k,c,d,rfl,rfl,hc,hd,hk,hm,hb⟩:=hrel
  have HT2:=(HT.out.below hb)
  have HB1:=q7 hb
  clear hb
  obtain ⟨k,rfl⟩:∃k',k=k'+1:=⟨k - 1,by omega⟩
  have hcn:=HN.out _ (HI.out.reach _ hc)
  have hdn:=HN.out _ (HI.out.reach _ hd)
  have c1:=HT2.up.cell hcn
  have c2:=HT2.up.cell hdn
  have c3:=HT2.at_.cell hcn
  have c4:=HT2.at_.cell hdn
  clear HT2
  have HC:=q7 hc
  have HD:=q7 hd
  rw [mq k c d] at hm
  by_cases e:c=d
  ·subst e
   rw [zZ rfl] at hm
   have HM:=q7 hm
   clear hm hc hd
   go_wp2
   go_ret
   exact ⟨by rw [←HM.out];rfl,by exact bZ⟩
  rw [zQ e] at hm
  have hne:¬ ((c:Int)=d):=by omega
  have hpl:pl c≠pl d:=fun e2=>e (HI.out.one _ _ (HI.out.reach _ hc) (HI.out.reach _ hd) e2)
  by_cases hl:pl c<pl d
  ·rw [zZ hl] at hm
   have hd0:d≠0:=fun e0=>by
    have:=HI.out.rootAt
    rw [e0] at hl;omega
   have h2:=HI.out.less _ hd hd0
   have hu:=HI.out.mkUp _ hd
   have e2:u d=((upN u d:Nat):Int):=by
    have:0≤u d:=hd
    unfold upN;omega
   rw [e2] at c2
   have HM:=q7 hm
   have HU:=q7 hu
   have hl2:(pl c:Int)<pl d:=by omega
   have HP:=q7 hpl
   clear hm hc hd hu e2 hpl hd0
   go_wp2
   go_quiet (fail)
   go_wp2
   exact ⟨⟨k,_,_,rfl,rfl,HU.out,HC.out,by omega,HM.out,by exact bZ⟩,by simp [intOf];omega⟩
  rw [zQ hl] at hm
  have hc0:c≠0:=fun e0=>by
   have:=HI.out.rootAt
   rw [e0] at hl hpl;omega
  have h2:=HI.out.less _ hc hc0
  have hu:=HI.out.mkUp _ hc
  have e2:u c=((upN u c:Nat):Int):=by
   have:0≤u c:=hc
   unfold upN;omega
  rw [e2] at c1
  have HM:=q7 hm
  have HU:=q7 hu
  have hl2:¬ ((pl c:Int)<pl d):=by omega
  have HP:=q7 hpl
  clear hm hc hd hu e2 hpl hc0
  go_wp2
  go_quiet (fail)
  go_wp2
  exact ⟨⟨k,_,_,rfl,rfl,HU.out,HD.out,by omega,HM.out,by exact bZ⟩,by simp [intOf];omega⟩

def jk (u:Nat→Int) (a:Int):Nat→Int→Bool
 | 0,b=>a == b
 | k+1,b=>if 0≤b∧b≠a then jk u a k (u b.toNat) else a == b

def topN (pl:Nat→Nat) (d:Int):Nat:=if 0≤d then pl d.toNat+1 else 0
theorem Ym {pl:Nat→Nat} {c:Nat}:topN pl c=pl c+1:=by unfold topN;simp
theorem topN_up {pl:Nat→Nat} {u:Nat→Int} {c:Nat} (h:0≤u c→pl (u c).toNat<pl c):topN pl (u c)<topN pl (c:Int):=by
 rw [Ym]
 unfold topN
 split
 ·have:=h (by assumption);omega
 omega
theorem Ks {u:Nat→Int} {a:Int} (k:Nat) (b:Int):jk u a (k+1) b=if 0≤b∧b≠a then jk u a k (u b.toNat) else a == b:=rfl
theorem rules_any {w:World} {U n:Nat} {u:Nat→Int} {pl:Nat→Nat} (hU:w.rowIs U 3 n (fun j=>.int .i64 (u j))) (hI:∀c,c<n→-1≤u c∧u c<n∧(0≤u c→pl (u c).toNat<pl c)) (a b:Nat) (_ha:a<n) (hb:b<n) :
  Calls Tryz.prog 141 #[.slice (some ⟨U,0,none⟩) n n,.int .i64 a,.int .i64 b] w fun e w'=>e = .returned (.bool (jk u a (pl b+2) b))∧Below w.heap.size w w':=by
 have HU:=q7 hU
 have HI:=q7 hI
 clear hU hI
 go_enter Tryz.func141,Tryz.ntmps141
 go_wp2
 go_loopw [2] (fun y wr=>∃(k:Nat) (d:Int),y = .int .i64 d∧-1≤d∧d<n∧topN pl d<k∧jk u a k d=jk u a (pl b+2) b∧Below w.heap.size w wr) (fun y _=>topN pl (intOf y))
 case atStart=>exact ⟨pl b+2,b,rfl,by omega,by omega,by rw [Ym];omega,rfl,zI _ _⟩
 case round=>
  obtain ⟨k,d,rfl,h1,h2,hk,hm,hb⟩:=hrel
  have HB1:=q7 hb
  clear hb
  obtain ⟨k,rfl⟩:∃k',k=k'+1:=⟨k - 1,by omega⟩
  rw [Ks k d] at hm
  by_cases h0:0≤d
  ·obtain ⟨c,rfl⟩:∃c:Nat,d=c:=⟨d.toNat,by omega⟩
   have hcn:c<n:=by omega
   have c1:=(kS HU.out HB1.out).cell hcn
   by_cases e:c=a
   ·subst e
    rw [zQ (by simp)] at hm
    have HM:=q7 hm
    clear hm hk
    go_wp2
    go_ret
    exact ⟨by rw [←HM.out];simp,by exact bZ⟩
   have hne:¬ ((c:Int)=a):=by omega
   rw [zZ ⟨h0,hne⟩] at hm
   have HM:=q7 hm
   have h3:=HI.out c hcn
   have HX:=q7 h3
   have HK:=q7 hk
   clear hm h3 hk
   go_wp2
   obtain ⟨h4,h5,h6⟩:=HX.out
   have h7:=topN_up h6
   exact ⟨⟨k,_,rfl,h4,h5,by have:=HK.out;omega,HM.out,by exact bZ⟩,h7⟩
  rw [zQ (by omega)] at hm
  have hne:¬ ((a:Int)=d):=by omega
  have HM:=q7 hm
  clear hm hk
  go_wp2
  go_ret
  exact ⟨by rw [←HM.out];simp,by exact bZ⟩

def wrF (wb:Nat→Int×Int) (j:Nat):Value:=.int .i64 (if j % 2=0 then (wb (j / 2)).1 else (wb (j / 2)).2)
def jQ (wb:Nat→Int×Int) (r:Nat) (b a:Int):Nat→Int×Int:=fun i=>if i=r∧(wb r).1<0 then (b,a) else wb i
theorem wrF_0 (wb:Nat→Int×Int) (r:Nat):wrF wb (r*2) = .int .i64 (wb r).1:=by
 have e:r*2 / 2=r:=by omega
 unfold wrF
 rw [zZ (by omega),e]
theorem wrF_1 (wb:Nat→Int×Int) (r:Nat):wrF wb (r*2+1) = .int .i64 (wb r).2:=by
 have e:(r*2+1) / 2=r:=by omega
 unfold wrF
 rw [zQ (by omega),e]
theorem wrPut_no {wb:Nat→Int×Int} {r:Nat} {b a:Int} (h:¬ (wb r).1<0):jQ wb r b a=wb:=by
 funext i;unfold jQ;rw [zQ (fun g=>h g.2)]
theorem wrPut_row {wb:Nat→Int×Int} {r:Nat} {b a:Int} (h:(wb r).1<0) {w:World} {B n:Nat} {t:TypeId} (hR:w.rowIs B t n (wrF wb)) :
  ((w.setCell ⟨B,r*2,none⟩ (.int .i64 b)).setCell ⟨B,r*2+1,none⟩ (.int .i64 a)).rowIs B t n (wrF (jQ wb r b a)):=by
 refine ((hR.set (r*2) (.int .i64 b)).set (r*2+1) (.int .i64 a)).congr fun j _=>?_
 by_cases e:j / 2=r
 ·have hj:j=r*2∨j=r*2+1:=by omega
  rcases hj with rfl|rfl
  ·rw [zQ (by omega),zZ rfl,wrF_0]
   unfold jQ;rw [zZ ⟨rfl,h⟩]
  rw [zZ rfl,wrF_1]
  unfold jQ;rw [zZ ⟨rfl,h⟩]
 rw [zQ (by omega),zQ (by omega)]
 unfold wrF jQ
 have e2:¬ (j / 2=r∧(wb r).1<0):=fun g=>e g.1
 simp only [e2,if_false]

theorem X6 (C B R r:Nat) (b a:Int) (wb:Nat→Int×Int) (w:World) (hr:r<R) (_hR0:R≤1000) (hbG:w.cell? ⟨C,5,none⟩=some (.slice (some ⟨B,0,none⟩) R R)) (hR:w.rowIs B 114 (R*2) (wrF wb)) :
  Calls Tryz.prog 104 #[.pointer (some ⟨C,0,none⟩),.int .i64 r,.int .i64 b,.int .i64 a] w fun e w'=>e = .returned (.bool (decide ((wb r).1<0)))∧w'.rowIs B 114 (R*2) (wrF (jQ wb r b a))∧Kept (fun k=>k=B) w w':=by
 have c0:=hR.cell (i:=r*2) (by omega)
 have c1:=hR.cell (i:=r*2+1) (by omega)
 have f0:=hR.frozen (r*2)
 have f1:=hR.frozen (r*2+1)
 rw [wrF_0] at c0
 rw [wrF_1] at c1
 have HR:=q7 hR
 clear hR
 by_cases h:(wb r).1<0
 ·have h2:decide (0≤(wb r).1)=false:=by simp;omega
  have H:=q7 h
  have hd:decide ((wb r).1<0)=true:=by simp [h]
  rw [hd]
  clear h hd
  go_enter Tryz.func104,Tryz.ntmps104
  go_wp2
  go_ret
  exact ⟨rfl,wrPut_row H.out HR.out,Kept.setCell (p:=⟨B,_,none⟩) (Kept.setCell (p:=⟨B,_,none⟩) (Kept.refl (fun k=>k=B) w) rfl _) rfl _⟩
 have h2:decide (0≤(wb r).1)=true:=by simp;omega
 have H:=q7 h
 have hd:decide ((wb r).1<0)=false:=by simp;omega
 rw [hd]
 clear h hd
 go_enter Tryz.func104,Tryz.ntmps104
 go_wp2
 go_ret
 exact ⟨rfl,by rw [wrPut_no (by have:=H.out;omega)];exact HR.out,Kept.refl _ _⟩

def knB (wb:Nat→Int×Int) (u:Nat→Int) (pl:Nat→Nat) (vr:Bool) (vn:Int) (block:Nat) (at_:Int):Bool:=
 if vr=false then true
 else if (wb vn.toNat).1<0 then false
 else if (wb vn.toNat).1=block then decide ((wb vn.toNat).2<at_)
 else jk u (wb vn.toNat).1.toNat (pl block+2) block
def TreeU (n:Nat) (u:Nat→Int) (pl:Nat→Nat):Prop:=∀c,c<n→-1≤u c∧u c<n∧(0≤u c→pl (u c).toNat<pl c)
theorem X7 (C B R U n block:Nat) (vr:Bool) (vn at_:Int) (wb:Nat→Int×Int) (u:Nat→Int) (pl:Nat→Nat) (w:World) (hv:vr=true→0≤vn∧vn<R) (_hR0:R≤1000) (hbG:w.cell? ⟨C,5,none⟩=some (.slice (some ⟨B,0,none⟩) R R)) (hpY:w.cell? ⟨C,4,none⟩=some (.slice (some ⟨U,0,none⟩) n n))
  (hR:w.rowIs B 114 (R*2) (wrF wb)) (hU:w.rowIs U 3 n (fun j=>.int .i64 (u j))) (hT:TreeU n u pl) (hwb:∀r,r<R→(wb r).1<n) (hb:block<n) :
  Calls Tryz.prog 105 #[.pointer (some ⟨C,0,none⟩),.agg #[.bool vr,.int .i64 vn],.int .i64 block,.int .i64 at_] w fun e w'=>e = .returned (.bool (knB wb u pl vr vn block at_))∧Below w.heap.size w w':=by
 cases vr with
 | false=>
  clear hR hU hT
  go_enter Tryz.func105,Tryz.ntmps105
  go_wp2
  go_ret
  exact ⟨rfl,by exact bZ⟩
 | true=>
  obtain ⟨h1,h2⟩:=hv rfl
  obtain ⟨r,rfl⟩:∃r:Nat,vn=r:=⟨vn.toNat,by omega⟩
  have hr:r<R:=by omega
  have c0:=hR.cell (i:=r*2) (by omega)
  have c1:=hR.cell (i:=r*2+1) (by omega)
  have hwr:=hwb r hr
  rw [wrF_0] at c0
  rw [wrF_1] at c1
  have hzC:=qd hbG
  have hzB:=hR.lt
  have HU:=q7 hU
  have HT:=q7 hT
  have HK:Hid (knB wb u pl true (r:Int) block at_=if (wb r).1<0 then false else if (wb r).1=block then decide ((wb r).2<at_) else jk u (wb r).1.toNat (pl block+2) block):=q7 (by unfold knB;simp)
  clear hR hU hT hv h1 h2 hwb
  obtain ⟨⟨x,y⟩,hxy⟩:∃p,p=wb r:=⟨_,rfl⟩
  rw [←hxy] at c0 c1 hwr HK
  clear hxy
  simp only at c0 c1 hwr HK
  by_cases hx:x<0
  ·rw [zZ hx] at HK
   go_enter Tryz.func105,Tryz.ntmps105
   go_wp2_with fail
   go_region
   all_goals go_wp2
   all_goals go_ret
   all_goals exact ⟨by rw [HK.out];rfl,by exact bZ⟩
  rw [zQ hx] at HK
  obtain ⟨x,rfl⟩:∃k:Nat,x=k:=⟨x.toNat,by omega⟩
  by_cases he:(x:Int)=block
  ·rw [zZ he] at HK
   obtain rfl:x=block:=by omega
   go_enter Tryz.func105,Tryz.ntmps105
   go_wp2_with fail
   go_region
   all_goals go_wp2
   all_goals go_ret
   all_goals exact ⟨by rw [HK.out];rfl,by exact bZ⟩
  rw [zQ he] at HK
  have hxn:x<n:=by omega
  have hrl:=fun w' (h:Below w.heap.size w w')=>rules_any (w:=w') (kS HU.out h) HT.out x block hxn hb
  rw [xC] at HK
  rw [←HK.out] at hrl
  have HRL:=q7 hrl
  clear hrl
  go_enter Tryz.func105,Tryz.ntmps105
  go_wp2_with fail
  go_region
  go_wp2_with fail
  go_region_with (go_at_call 141;refine (HRL.out _ bZ).mono ?_;rintro e w2 ⟨rfl,hb2⟩;have HB2:Hid (Below w.heap.size w w2):=yo bZ (hb2.mono (by first|(simp;done)|(simp;omega)));clear hb2)
  all_goals go_wp2
  all_goals go_ret
  all_goals exact ⟨rfl,by exact bZ⟩

def z8 {α β:Type} (g:Nat→α→List β):Nat→List α→List β
 | _,[]=>[]
 | k,x::l=>g k x++z8 g (k+1) l
theorem Zk {α β:Type} (g:Nat→α→List β):∀(l m:List α) (k:Nat),z8 g k (l++m)=z8 g k l++z8 g (k+l.length) m
 | [],m,k=>by simp [z8]
 | x::l,m,k=>by
  show g k x++z8 g (k+1) (l++m)=(g k x++z8 g (k+1) l)++_
  rw [Zk g l m (k+1),yF]
  have e:k+1+l.length=k+(x::l).length:=by simp;omega
  rw [e]
theorem Z1 {α β:Type} (g:Nat→α→List β) {l:List α} {j:Nat} (h:j<l.length):z8 g 0 (l.take (j+1))=z8 g 0 (l.take j)++g j l[j]:=by
 rw [yA h,Zk]
 have e:(l.take j).length=j:=by simp;omega
 rw [e]
 simp [z8]
theorem jH {α β:Type} {g:Nat→α→List β} {y:β}:∀{l:List α} {k:Nat},y∈z8 g k l→∃j,∃h:j<l.length,y∈g (k+j) l[j]
 | [],_,h=>by simp [z8] at h
 | x::l,k,h=>by
  have h:y∈g k x++z8 g (k+1) l:=h
  rcases yH.1 h with h|h
  ·exact ⟨0,by simp,by simpa using h⟩
  obtain ⟨j,hj,h2⟩:=jH h
  refine ⟨j+1,by simp;omega,?_⟩
  have e:k+1+j=k+(j+1):=by omega
  rw [e] at h2
  simpa using h2
theorem vN {α β:Type} {g:Nat→α→List β} {y:β}:∀{l:List α} {k j:Nat} (h:j<l.length),y∈g (k+j) l[j]→y∈z8 g k l
 | x::l,k,0,_,h=>yE _ (by simpa using h)
 | x::l,k,j+1,hj,h=>by
  refine yM _ (vN (j:=j) (by simpa using hj) ?_)
  have e:k+1+j=k+(j+1):=by omega
  rw [e]
  simpa using h

structure WrE where
 r:Nat
 b:Int
 a:Int
def qH (s:(Nat→Int×Int)×Bool) (e:WrE):(Nat→Int×Int)×Bool:=(jQ s.1 e.r e.b e.a,decide ((s.1 e.r).1<0)&&s.2)
def j5 (i:Nat) (ps:List PhiL):List WrE:=ps.map fun p=>⟨p.dst.toNat,i,-1⟩
def kl (i:Nat) (j:Nat) (x:InsL):List WrE:=if x.dst<0 then [] else [⟨x.dst.toNat,i,j⟩]
def kD (i:Nat) (b:BlkL):List WrE:=j5 i b.phis++z8 (kl i) 0 b.list
def vO (k:Nat):List WrE:=(List.range k).map fun r=>⟨r,0,-1⟩
def Q4 (f:FunL):List WrE:=vO f.params.toNat++z8 kD 0 f.blocks
def wr0 (_:Nat):Int×Int:=(-1,-1)
def ZC (f:FunL):(Nat→Int×Int)×Bool:=(Q4 f).foldl qH (wr0,true)
theorem mr (k:Nat):vO (k+1)=vO k++[⟨k,0,-1⟩]:=by unfold vO;rw [yt];simp

structure FunR' (f:FunL):Prop extends FunS f where
 par:0≤f.params∧f.params≤f.regs
 reg:f.regs≤100
 phi:∀b (h:b<f.blocks.length),∀p∈f.blocks[b].phis,PhiOk f b p
 ins:∀b (h:b<f.blocks.length),∀x∈f.blocks[b].list,1≤x.op∧x.op≤22∧x.dst<f.regs∧vh f.regs x.ar x.an∧vh f.regs x.br x.bn∧∀v∈x.args,vh f.regs v.1 v.2
 on:∀b (h:b<f.blocks.length),vh f.regs f.blocks[b].fin.onr f.blocks[b].fin.onn
theorem ChkOk.funR {u:UniL} (h:ChkOk u) {k:Nat} (hk:k<u.funcs.length):FunR' u.funcs[k]:=by
 obtain ⟨⟨h1,_⟩,⟨h3,h4⟩,_⟩:=h.fn hk
 refine { h.funS hk with par:=⟨h1,h3⟩,reg:=h4,phi:=fun b hb p hp=>?_,ins:=fun b hb x hx=>?_,on:=fun b hb=>?_ }
 ·exact phiL_zero ((QF (h.bodyZ hk) hb).1 p hp)
 ·have hi:=insL_zero ((QF (h.bodyZ hk) hb).2 x hx)
  have:=hi.dst
  exact ⟨hi.op.1,hi.op.2,by omega,hi.a,hi.b,hi.arg⟩
 exact (X3 (QE (h.bodyZ hk) hb)).on
def WrOk (n:Nat) (wb:Nat→Int×Int):Prop:=∀r,(wb r).1<n
theorem WrOk.put {n:Nat} {wb:Nat→Int×Int} (h:WrOk n wb) {r:Nat} {b a:Int} (hb:b<n):WrOk n (jQ wb r b a):=fun i=>by
 unfold jQ
 split
 ·exact hb
 exact h i
theorem Vr {n:Nat}:∀(L:List WrE) {s:(Nat→Int×Int)×Bool},WrOk n s.1→(∀e∈L,e.b<n)→WrOk n (L.foldl qH s).1
 | [],_,h,_=>h
 | e::L,_,h,hL=>Vr L (h.put (hL e yg)) fun x hx=>hL x (yc _ hx)
theorem wrBlk_b {i:Nat} {b:BlkL} {e:WrE} (h:e∈kD i b):e.b=i:=by
 unfold kD at h
 rcases yH.1 h with h|h
 ·obtain ⟨p,_,rfl⟩:=yD.1 h;rfl
 obtain ⟨j,_,h⟩:=jH h
 unfold kl at h
 split at h
 ·cases h
 rw [yI.1 h]
theorem wrF_ok {f:FunL} (hn:0<f.blocks.length):WrOk f.blocks.length (ZC f).1:=by
 refine Vr _ (fun r=>by show (-1:Int)<_;omega) fun e he=>?_
 unfold Q4 at he
 rcases yH.1 he with h|h
 ·unfold vO at h
  obtain ⟨r,_,rfl⟩:=yD.1 h
  show (0:Int)<_;omega
 obtain ⟨j,hj,h⟩:=jH h
 rw [wrBlk_b h]
 omega

def takes (x:InsL):List (Bool×Int):=(if shA x.op=true then [(x.ar,x.an)] else [])++(if shB x.op=true then [(x.br,x.bn)] else [])++x.args

structure UsE where
 vr:Bool
 vn:Int
 b:Nat
 a:Int
def Z2 (f:FunL) (i:Nat) (j:Nat) (v:Bool×Int):List UsE:=[⟨v.1,v.2,(insN f i).getD j 0,((f.blocks[(insN f i).getD j 0]?.map fun b=>b.list.length).getD 0:Nat)⟩]
def Zl (f:FunL) (i:Nat) (p:PhiL):List UsE:=z8 (Z2 f i) 0 p.src
def XO (i j:Nat) (x:InsL):List UsE:=(takes x).map fun v=>⟨v.1,v.2,i,(j:Nat)⟩
def kE (f:FunL) (i:Nat) (b:BlkL):List UsE:=b.phis.flatMap (Zl f i)++z8 (XO i) 0 b.list++[⟨b.fin.onr,b.fin.onn,i,(b.list.length:Nat)⟩]
def QI (f:FunL):List UsE:=z8 (kE f) 0 f.blocks
def knE (wb:Nat→Int×Int) (u:Nat→Int) (pl:Nat→Nat) (e:UsE):Bool:=knB wb u pl e.vr e.vn e.b e.a
def vx (wb:Nat→Int×Int) (u:Nat→Int) (pl:Nat→Nat) (f:FunL):Bool:=(QI f).all (knE wb u pl)
theorem Qn {wb:Nat→Int×Int} {u:Nat→Int} {pl:Nat→Nat} {f:FunL} {e:UsE} (h:e∈QI f) (hk:knE wb u pl e=false):vx wb u pl f=false:=by
 unfold vx
 rw [List.all_eq_false]
 exact ⟨e,h,by simp [hk]⟩
theorem XP {wb:Nat→Int×Int} {u:Nat→Int} {pl:Nat→Nat} {f:FunL} (h:∀e∈QI f,knE wb u pl e=true):vx wb u pl f=true:=by
 unfold vx
 rw [List.all_eq_true]
 exact h
theorem kT {f:FunL} {k:Nat} (hk:k<f.blocks.length) {e:UsE} (h:e∈kE f k f.blocks[k]):e∈QI f:=vN (k:=0) hk (by rw [yx];exact h)
theorem XQ {f:FunL} {k:Nat} {b:BlkL} {j:Nat} (hj:j<b.phis.length) {e:UsE} (h:e∈Zl f k b.phis[j]):e∈kE f k b:=
 yE _ (yE _ (yU.2 ⟨_,zP hj,h⟩))
theorem XR {f:FunL} {k:Nat} {b:BlkL} {j:Nat} (hj:j<b.list.length) {e:UsE} (h:e∈XO k j b.list[j]):e∈kE f k b:=
 yE _ (yM _ (vN (k:=0) hj (by rw [yx];exact h)))
theorem X8 {f:FunL} {k:Nat} {p:PhiL} {j:Nat} (hj:j<p.src.length):(⟨p.src[j].1,p.src[j].2,(insN f k).getD j 0,((f.blocks[(insN f k).getD j 0]?.map fun b=>b.list.length).getD 0:Nat)⟩:UsE)∈Zl f k p:=
 vN (k:=0) hj (by rw [yx];exact yI.2 rfl)
theorem Ju {α:Type} {g:Nat→α→List UsE} {Q:UsE→Prop} {l:List α} {j:Nat} (hj:j<l.length) (h:∀e∈z8 g 0 (l.take j),Q e) (h2:∀e∈g j l[j],Q e):∀e∈z8 g 0 (l.take (j+1)),Q e:=fun e he=>by
 rw [Z1 _ hj] at he
 rcases yH.1 he with he|he
 ·exact h e he
 exact h2 e he
theorem all_nextM {α:Type} {g:α→List UsE} {Q:UsE→Prop} {l:List α} {j:Nat} (hj:j<l.length) (h:∀e∈(l.take j).flatMap g,Q e) (h2:∀e∈g l[j],Q e):∀e∈(l.take (j+1)).flatMap g,Q e:=fun e he=>by
 rw [yA hj,yn] at he
 rcases yH.1 he with he|he
 ·exact h e he
 exact h2 e (by simpa using he)
end Go.Proofs.YtbnnhmcloecijaaGreatDoor
