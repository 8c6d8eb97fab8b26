/-
  Plain: a table of rows of numbers in a world; the J2 of loops over iterators at a funct
-/
import Derived.Lib.AppendZerosOnto
import Derived.Test.YtecdphhdmjmmnaaGreatDoorJVlsC
import Derived.Shelf.Sort.Plain
import Derived.Shelf.Slices.CompactI
import Derived.Shelf.Slices.In.SortNone
import Derived.Lib.OwnBridge
import Derived.Sort.OwnSortedInts
set_option maxRecDepth 100000
set_option maxHeartbeats 16000000
namespace Go.Proofs.YtecdphhdmjmmnaaGreatDoor
open Go.RowKit Go.Shelf

theorem insB_room (g cap n i vb:Nat) (vc xs:List Value) (cur:Array Value) (w:World) (hr:RowAt w 48 g cap 6 cur) (hx:cur.toList.take (n*6)=xs) (hl:xs.length=n*6) (hn:n+1≤cap) (hi:i<n) (hvl:vc.length=6) (h1v:∀u∈vc,u.oneCell'=true) (h1x:∀u∈xs,u.oneCell'=true) (hvb:w.heap[vb]?=some (.cells vc.toArray 48 (0,0))) (hne:vb≠g) :
  Calls Tryz.prog 52 #[.slice (some ⟨g,0,none⟩) n cap,.int .i64 i,.slice (some ⟨vb,0,none⟩) 1 1] w fun e w'=>
   e = .returned (.slice (some ⟨g,0,none⟩) (n+1) cap)∧(∃cur',RowAt w' 48 g cap 6 cur'∧cur'.toList.take ((n+1)*6)=xs.take (i*6)++vc++xs.drop (i*6))∧Kept (fun b=>b=g) w w':=by
 obtain⟨i1,k1,k2,k3,k4⟩:=info_parts kq
 have hcm:cap≤9223372036854775807:=hr.2.2
 have hcs:=hr.2.1
 have hxc:∀j u,vc[j]?=some u→w.cell? ((⟨vb,0,none⟩:Addr).add j)=some u:=fun j u hu=>by
  rw[zt,cell_of_row w vb _ _ _ (0,0) hvb,Nat.zero_add]
  simpa using hu
 have he:i≠n:=by omega
 have hlt:=hi
 have hcells:∀j,j<6→(w.cell? ⟨vb,j,none⟩).isSome=true:=fun j hj=>by
  rw[cell_of_row w vb _ _ _ (0,0) hvb]
  simp[hvl,hj]
 have hov:∀lb cb,(callFunc 84 #[.slice (some ⟨vb,0,none⟩) 1 1,.slice (some ⟨g,(i+1)*6,none⟩) lb cb]).run Tryz.prog w = .ok (.value (.bool false)) w:=fun lb cb=>by
  have hrb:=shape_row hr.1
  have hau:cur.size≠0:=by omega
  rw[run_callFunc_extern Tryz.func84 (by kernel_rfl) (by kernel_rfl) (by kernel_rfl) (e:=Extern.SlicesOverlaps.overlaps #[35,35] #[4]) (by kernel_rfl),
   Lib.run_overlaps_apart w 35 4 48 Tryz.underlying35 6 Tryz.sizeOf48 ⟨vb,0,none⟩ ⟨g,(i+1)*6,none⟩ 1 1 lb cb hne 48 48 vc.toArray.size cur.size (shape_row hvb) hrb hau ((blk hvb).2 0) ((blk hvb).2 _)]
  rfl
 have hsz:(Tryz.prog.info? 48).map (·.size)=some 6:=by rw[k1];simp[k3]
 have hdl:(xs.drop (i*6)).length=(n - i)*6:=by rw[List.length_drop,hl,Nat.sub_mul]
 have hget:∀t u,(xs.drop (i*6))[t]?=some u→cur[i*6+t]?=some u:=fun t u hu=>by
  rw[List.getElem?_drop,←hx]at hu
  rw[←Array.getElem?_toList]
  rw[List.getElem?_take]at hu
  split at hu
  ·exact hu
  cases hu
 obtain⟨c1,hc1⟩:∃c1:List Value,c1=cur.toList.take ((i+1)*6)++xs.drop (i*6)++cur.toList.drop ((i+1)*6+(xs.drop (i*6)).length):=⟨_,rfl⟩
 have haa:c1.length=cap*6:=by
  rw[hc1]
  simp only[List.length_append,List.length_take,List.length_drop,Array.length_toList,hcs,hdl]
  omega
 obtain⟨W1,hW1⟩:∃W1,W1=w.drew.setRow g c1.toArray:=⟨_,rfl⟩
 have hr1:RowAt W1 48 g cap 6 c1.toArray:=by rw[hW1];exact hr.drew.put haa
 have hcp1:∀ty dc sc,(Builtin.copy_ #[35,35] ty #[.slice (some ⟨g,(i+1)*6,none⟩) (n - i) dc,.slice (some ⟨g,i*6,none⟩) (n+1 - i) sc]).run Tryz.prog w.drew = .ok (goInt (Nat.min (n+1 - i) (n - i):Nat)) W1:=fun ty dc sc=>by
  have:=zD (P:=Tryz.prog) w.drew 35 35 ty 48 g ((i+1)*6) (n - i) dc 6 ⟨g,i*6,none⟩ (n+1 - i) sc cur 48 (xs.drop (i*6)) Tryz.underlying35 hsz hr.drew.1
   (by rw[hdl,show Nat.min (n+1 - i) (n - i)=n - i by simp only[Nat.min_def];split<;>omega]) (fun j v hj=>by rw[zt];exact(hr.drew.cell _).trans (hget j v hj)) (by rw[hdl,hcs];omega) (fun u hu=>h1x u (List.mem_of_mem_drop hu))
  rw[this,←hc1,←hW1]
 have hcp2:∀ty dc,(Builtin.copy_ #[35,35] ty #[.slice (some ⟨g,i*6,none⟩) (n+1 - i) dc,.slice (some ⟨vb,0,none⟩) 1 1]).run Tryz.prog W1 = .ok (goInt (Nat.min 1 (n+1 - i):Nat)) (W1.setRow g (c1.toArray.toList.take (i*6)++vc++c1.toArray.toList.drop (i*6+vc.length)).toArray):=fun ty dc=>
  zD (P:=Tryz.prog) W1 35 35 ty 48 g (i*6) (n+1 - i) dc 6 ⟨vb,0,none⟩ 1 1 c1.toArray 48 vc Tryz.underlying35 hsz hr1.1
   (by rw[hvl,show Nat.min 1 (n+1 - i)=1 by simp only[Nat.min_def];split<;>omega]) (fun j v hj=>by
    have h1:=hxc j v hj
    rw[zt]at h1 ⊢
    rw[hW1,show(w.drew.setRow g c1.toArray).cell? ⟨vb,0+j,none⟩=w.drew.cell? ⟨vb,0+j,none⟩from World.cell?_of_block (setRow_other w.drew g vb _ hne)]
    exact h1) (by simp only[List.size_toArray,haa,hvl];omega) h1v
 have HW:=q7 hW1
 have HR:=q7 hr
 have HR1:=q7 hr1
 have HX:=q7 (And.intro hx (And.intro hc1 (And.intro haa (And.intro hl hvl))))
 have hb1:¬ cap=i+1:=by omega
 have hb2:¬ cap=i:=by omega
 have hb3:i+1≤cap:=by omega
 have hwr:IntKind.i64.wrap ((i:Int)+1)=(i:Int)+1:=by rw[IntKind.wrap_i64];omega
 have hwb:(0:Int)≤(i:Int)+1:=by omega
 have hwc:(i:Int)+1≤(n:Int)+1:=by omega
 have hwd:(i:Int)≤(n:Int)+1:=by omega
 have hwt:((i:Int)+1).toNat=i+1:=by omega
 have mixed:Tryz.prog.follows .mixedOrders=true:=by kernel_rfl
 clear hW1 hr hr1 hget hx hc1 haa hxc hvb hl hcells hvl
 go_enter Tryz.func52,Tryz.ntmps52
 go_wp2_with (simp only[hov])
 go_region_law_o (refine step_copy_row rfl _ _ 35 35 rfl _ _ (by simp[Act.eval,Act.put]) (by simp[Act.eval,Act.put]) (hcp1 _ _ _) ?_)
 go_wp2_with (at_builtin;refine wpList_copy_row rfl _ _ 35 35 rfl _ _ rfl rfl (hcp2 _ _) ?_)
 go_ret
 obtain⟨hx,hc1,haa,hl,hvl⟩:=HX.out
 have hput:(c1.take (i*6)++vc++c1.drop (i*6+vc.length)).length=cap*6:=by
  simp only[List.length_append,List.length_take,List.length_drop,haa,hvl]
  omega
 have hrow:=HR1.out.put hput
 have hkp:=((Kept.refl (fun b=>b=g) w).drew.trans (HW.out ▸ HR.out.drew.keep c1.toArray) (fun _ _ h=>h)).trans (HR1.out.keep (c1.take (i*6)++vc++c1.drop (i*6+vc.length)).toArray) (fun _ _ h=>h)
 have hfin:List.take ((n+1)*6) (c1.take (i*6)++vc++c1.drop (i*6+vc.length))=xs.take (i*6)++vc++xs.drop (i*6):=by
  have e1:c1.take (i*6)=xs.take (i*6):=by
   rw[hc1,List.append_assoc,List.take_append_of_le_length (by simp only[List.length_take,Array.length_toList,hcs];omega),List.take_take,←hx,List.take_take]
   congr 1
   omega
  have l0:(cur.toList.take ((i+1)*6)).length=i*6+6:=by simp only[List.length_take,Array.length_toList,hcs];omega
  have e2:c1.drop (i*6+vc.length)=xs.drop (i*6)++cur.toList.drop ((i+1)*6+(xs.drop (i*6)).length):=by
   rw[hc1,List.append_assoc,show i*6+vc.length=(cur.toList.take ((i+1)*6)).length by rw[l0,hvl],List.drop_left]
  have l1:(xs.take (i*6)++vc++xs.drop (i*6)).length=(n+1)*6:=by
   simp only[List.length_append,List.length_take,List.length_drop,hl,hvl]
   omega
  rw[e1,e2,←List.append_assoc,←l1,List.take_left]
 simp only[List.append_assoc]at hrow hkp hfin ⊢
 exact⟨rfl,⟨_,hrow,hfin⟩,hkp⟩

theorem insB_grow (g cap n i vb:Nat) (vc xs:List Value) (cur:Array Value) (w:World) (hr:RowAt w 48 g cap 6 cur) (hx:cur.toList.take (n*6)=xs) (hl:xs.length=n*6) (hn:n≤cap) (hroom:cap<n+1) (hbig:n≤1000000) (hi:i<n) (hvl:vc.length=6) (h1v:∀u∈vc,u.oneCell'=true) (h1x:∀u∈xs,u.oneCell'=true) (hvb:w.heap[vb]?=some (.cells vc.toArray 48 (0,0))) (_hne:vb≠g) :
  Calls Tryz.prog 52 #[.slice (some ⟨g,0,none⟩) n cap,.int .i64 i,.slice (some ⟨vb,0,none⟩) 1 1] w fun e w'=>
   ∃G,e = .returned (.slice (some ⟨w.heap.size,0,none⟩) (n+1) G)∧n+1≤G∧(∃cur',RowAt w' 48 w.heap.size G 6 cur'∧cur'.toList.take ((n+1)*6)=xs.take (i*6)++vc++xs.drop (i*6))∧Kept (fun b=>b=g) w w':=by
 obtain⟨i0,hi0,hz0,hzs,hzb⟩:=info_parts kq
 have hcm:cap≤9223372036854775807:=hr.2.2
 have hcs:=hr.2.1
 have hgw:g<w.heap.size:=(Array.getElem?_eq_some_iff.1 hr.1).1
 have hvw:vb<w.heap.size:=(Array.getElem?_eq_some_iff.1 hvb).1
 have hsz:(Tryz.prog.info? 48).map (·.size)=some 6:=by rw[hi0];simp[hzs]
 have hz2:¬ ((i:Int)=(n:Int)):=by omega
 have hz3:(cap:Int)<(n:Int)+1:=by omega
 have hkk:(n:Int)+1 - (i:Int)=((n+1 - i:Nat):Int):=by omega
 have hik:i+(n+1 - i)=n+1:=by omega
 have hold:(Builtin.firstCells i0.size i (.slice (some ⟨g,0,none⟩) i cap)).run Tryz.prog w.drew = .ok (xs.take (i*6)).toArray w.drew:=by
  rw[hzs]
  exact run_firstCells_some w.drew 6 i ⟨g,0,none⟩ i cap (xs.take (i*6)) (by rw[List.length_take];omega) (fun j v hj=>by
   rw[zt,Nat.zero_add]
   rw[List.getElem?_take]at hj
   split at hj
   ·refine(hr.drew.cell j).trans ?_
    rw[←hx,List.getElem?_take]at hj
    split at hj
    ·rw[←Array.getElem?_toList];exact hj
    cases hj
   cases hj)
 obtain⟨Z,hZ⟩:∃Z:Value,Z = .agg #[.slice none 0 0,.slice none 0 0,.int .i64 0,.bool false,.int .i64 0,.slice none 0 0]:=⟨_,rfl⟩
 rw[←hZ]at hz0
 have hZs:Z.cells.size=6:=by rw[hZ];rfl
 have hrz:∀ty,(Builtin.append_ #[35,3] ty #[.slice (some ⟨g,0,none⟩) i cap,.int .i64 ((n:Int)+1 - (i:Int))]).run Tryz.prog w =
   .ok (.slice (some ⟨w.heap.size,0,none⟩) (n+1) (grownCap w (n+1) cap 48)) (w.drew.alloc (.cells ((xs.take (i*6)).toArray++Builtin.zeroCells Z.cells (n+1 - i)++Builtin.zeroCells Z.cells (grownCap w (n+1) cap 48 - (n+1))) 48)):=fun ty=>by
  have h:=Lib.run_append_grow_zeros w 35 3 ty 48 i0 _ .i64 .i64 Tryz.underlying35 Tryz.underlying3 hi0 hz0 (some ⟨g,0,none⟩) i cap (xs.take (i*6)) hold (n+1 - i) (by omega) (by omega) (by omega) (by omega) (by rw[hzb];omega) (by rw[hzb,hik];exact growslice_fits hroom (by omega))
  rw[hik]at h
  rw[hkk]
  exact h
 obtain⟨G,hG⟩:∃G,G=grownCap w (n+1) cap 48:=⟨_,rfl⟩
 have hGn:n+1≤G:=by rw[hG];exact grownCap_ge w _ _ _
 have hG63:G≤maxLen:=by rw[hG];exact grownCap_le_maxLen w (n+1) cap 48 (by unfold maxLen;omega)
 obtain⟨ROW,hROW⟩:∃ROW:Array Value,ROW=(xs.take (i*6)).toArray++Builtin.zeroCells Z.cells (n+1 - i)++Builtin.zeroCells Z.cells (G - (n+1)):=⟨_,rfl⟩
 rw[←hG]at hrz
 rw[←hROW]at hrz
 have hRs:ROW.size=G*6:=by
  rw[hROW]
  simp only[Array.size_append,List.size_toArray,size_zeroCells,hZs,List.length_take,hl]
  omega
 have hRt:ROW.toList.take (i*6)=xs.take (i*6):=by
  rw[hROW]
  simp only[Array.toList_append,List.append_assoc]
  rw[List.take_append_of_le_length (by rw[List.length_take,hl,Nat.min_eq_left (Nat.mul_le_mul_right 6 (by omega))];exact Nat.le_refl _),List.take_take,Nat.min_self]
 obtain⟨N,hN⟩:∃N,N=w.heap.size:=⟨_,rfl⟩
 rw[←hN]at hrz
 obtain⟨W1,hW1⟩:∃W1,W1=w.drew.alloc (.cells ROW 48):=⟨_,rfl⟩
 rw[←hW1]at hrz
 have hr1:RowAt W1 48 N G 6 ROW:=by rw[hW1,hN];exact⟨by show(w.heap.push _)[w.heap.size]?=_;rw[Array.getElem?_push,if_pos rfl],hRs,hG63⟩
 have ho1:∀b,b<w.heap.size→W1.heap[b]?=w.heap[b]?:=fun b hb=>by
  rw[hW1]
  show(w.heap.push _)[b]?=_
  rw[Array.getElem?_push,if_neg (by omega)]
 obtain⟨c1,hc1⟩:∃c1:List Value,c1=ROW.toList.take (i*6)++vc++ROW.toList.drop (i*6+vc.length):=⟨_,rfl⟩
 have haa:c1.length=G*6:=by
  rw[hc1]
  simp only[List.length_append,List.length_take,List.length_drop,Array.length_toList,hRs,hvl]
  omega
 obtain⟨W2,hW2⟩:∃W2,W2=W1.setRow N c1.toArray:=⟨_,rfl⟩
 have hr2:RowAt W2 48 N G 6 c1.toArray:=by rw[hW2];exact hr1.put haa
 have ho2:∀b,b<w.heap.size→W2.heap[b]?=w.heap[b]?:=fun b hb=>by rw[hW2,setRow_other _ _ _ _ (by omega)];exact ho1 b hb
 have hcpA:∀ty dc,(Builtin.copy_ #[35,35] ty #[.slice (some ⟨N,i*6,none⟩) (n+1 - i) dc,.slice (some ⟨vb,0,none⟩) 1 1]).run Tryz.prog W1 = .ok (goInt (Nat.min 1 (n+1 - i):Nat)) W2:=fun ty dc=>by
  have:=zD (P:=Tryz.prog) W1 35 35 ty 48 N (i*6) (n+1 - i) dc 6 ⟨vb,0,none⟩ 1 1 ROW 48 vc Tryz.underlying35 hsz hr1.1
   (by rw[hvl,show Nat.min 1 (n+1 - i)=1 by simp only[Nat.min_def];split<;>omega]) (fun j v hj=>by
    rw[zt,Nat.zero_add,show W1.cell? ⟨vb,j,none⟩=w.cell? ⟨vb,j,none⟩from World.cell?_of_block (ho1 vb hvw),cell_of_row w vb _ _ _ (0,0) hvb]
    simpa using hj) (by rw[hRs,hvl];omega) h1v
  rw[this,←hc1,←hW2]
 have hdl:(xs.drop (i*6)).length=(n - i)*6:=by rw[List.length_drop,hl,Nat.sub_mul]
 obtain⟨c2,hc2⟩:∃c2:List Value,c2=c1.toArray.toList.take ((i+1)*6)++xs.drop (i*6)++c1.toArray.toList.drop ((i+1)*6+(xs.drop (i*6)).length):=⟨_,rfl⟩
 have hfN:c2.length=G*6:=by
  rw[hc2]
  simp only[List.length_append,List.length_take,List.length_drop,haa,hdl]
  omega
 have hcpB:∀ty dc sc,(Builtin.copy_ #[35,35] ty #[.slice (some ⟨N,(i+1)*6,none⟩) (n - i) dc,.slice (some ⟨g,i*6,none⟩) (n - i) sc]).run Tryz.prog W2.drew = .ok (goInt (Nat.min (n - i) (n - i):Nat)) (W2.drew.setRow N c2.toArray):=fun ty dc sc=>by
  have:=zD (P:=Tryz.prog) W2.drew 35 35 ty 48 N ((i+1)*6) (n - i) dc 6 ⟨g,i*6,none⟩ (n - i) sc c1.toArray 48 (xs.drop (i*6)) Tryz.underlying35 hsz hr2.drew.1
   (by rw[hdl,show Nat.min (n - i) (n - i)=n - i by simp only[Nat.min_def];split<;>rfl]) (fun j v hj=>by
    rw[zt,show W2.drew.cell? ⟨g,i*6+j,none⟩=w.cell? ⟨g,i*6+j,none⟩from World.cell?_of_block (ho2 g hgw),cell_of_row w g _ _ _ (0,0) hr.1]
    rw[List.getElem?_drop,←hx,List.getElem?_take]at hj
    split at hj
    ·rw[←Array.getElem?_toList];exact hj
    cases hj) (by simp only[List.size_toArray,haa,hdl];omega) (fun u hu=>h1x u (List.mem_of_mem_drop hu))
  rw[this,←hc2]
 have hfO:Kept (fun b=>b=g) w W1:=by rw[hW1];exact(Kept.refl _ w).drew.alloc _
 have HH:=q7 (And.intro hN (And.intro hfO (And.intro hr1 (And.intro hr2 (And.intro hW2 (And.intro hc1 (And.intro hc2 (And.intro haa (And.intro hfN (And.intro hRt (And.intro hRs (And.intro hl hvl))))))))))))
 have HG:=q7 hG63
 have hGi:¬ G=i:=by unfold maxLen at hG63;omega
 have hGim:¬ G=i+1:=by omega
 have hci:¬ cap=i:=by omega
 have hw1:IntKind.i64.wrap ((i:Int)+1)=(i:Int)+1:=by rw[IntKind.wrap_i64];omega
 have hwn:IntKind.i64.wrap ((n:Int)+1)=(n:Int)+1:=by rw[IntKind.wrap_i64];omega
 have hwk:IntKind.i64.wrap ((n:Int)+1 - (i:Int))=(n:Int)+1 - (i:Int):=by rw[IntKind.wrap_i64];omega
 have hb1:(0:Int)≤(i:Int)+1:=by omega
 have hwc:(i:Int)+1≤(n:Int)+1:=by omega
 have hwd:(i:Int)≤(n:Int)+1:=by omega
 have hin:i≤n:=by omega
 have hic:i≤cap:=by omega
 have hb4:i+1≤G:=by omega
 have htn:((i:Int)+1).toNat=i+1:=by omega
 have hb3:(i:Int)≤(n:Int):=by omega
 have hsub:n+1 - (i+1)=n - i:=by omega
 have mixed:Tryz.prog.follows .mixedOrders=true:=by kernel_rfl
 clear hkk hik hold hROW hG hRs hRt hN hW1 hW2 hr1 hr2 ho1 ho2 hc1 hc2 haa hfN hr hx hl hvl hvb hdl hfO hG63 hz0 hZ hZs
 go_enter Tryz.func52,Tryz.ntmps52
 go_wp2_with (first
  | (at_builtin;refine Lib.wpList_append_run _ rfl _ _ _ _ rfl _ _ rfl rfl _ _ (hrz _) ?_)
  | (at_builtin;refine wpList_copy_row rfl _ _ 35 35 rfl _ _ rfl rfl (hcpA _ _) ?_))
 go_region_law_o (refine step_copy_row rfl _ _ 35 35 rfl _ _ (by simp[Act.eval,Act.put];exact⟨rfl,rfl⟩) (by simp[Act.eval,Act.put]) (hcpB _ _ _) ?_)
 go_wp2
 go_ret
 obtain⟨hN,hfO,hr1,hr2,hW2,hc1,hc2,haa,hfN,hRt,hRs,hl,hvl⟩:=HH.out
 refine⟨G,by rw[←hN];rfl,hGn,⟨_,by rw[←hN];exact hr2.drew.put hfN,?_⟩,?_⟩
 ·have e1:c1.take ((i+1)*6)=xs.take (i*6)++vc:=by
   have l0:(ROW.toList.take (i*6)++vc).length=(i+1)*6:=by simp only[List.length_append,List.length_take,Array.length_toList,hRs,hvl];omega
   rw[hc1,←l0,List.take_left,hRt]
  have l1:(xs.take (i*6)++vc++xs.drop (i*6)).length=(n+1)*6:=by
   simp only[List.length_append,List.length_take,List.length_drop,hl,hvl]
   omega
  rw[hc2,e1,←l1,List.take_left]
 have k1:=hr1.keep c1.toArray
 rw[←hW2]at k1
 refine((hfO.trans k1 (fun k hk h=>?_)).drew.trans (hr2.drew.keep c2.toArray) (fun k hk h=>?_))
 ·exact absurd h (by omega)
 exact absurd h (by omega)

theorem insB_any (g cap n i vb:Nat) (vc xs:List Value) (cur:Array Value) (w:World) (hr:RowAt w 48 g cap 6 cur) (hx:cur.toList.take (n*6)=xs) (hl:xs.length=n*6) (hn:n≤cap) (hbig:n≤1000000) (hi:i<n) (hvl:vc.length=6) (h1v:∀u∈vc,u.oneCell'=true) (h1x:∀u∈xs,u.oneCell'=true) (hvb:w.heap[vb]?=some (.cells vc.toArray 48 (0,0))) (hne:vb≠g) :
  Calls Tryz.prog 52 #[.slice (some ⟨g,0,none⟩) n cap,.int .i64 i,.slice (some ⟨vb,0,none⟩) 1 1] w fun e w'=>
   ∃g' G,e = .returned (.slice (some ⟨g',0,none⟩) (n+1) G)∧n+1≤G∧(g'=g∨w.heap.size≤g')∧(∃cur',RowAt w' 48 g' G 6 cur'∧cur'.toList.take ((n+1)*6)=xs.take (i*6)++vc++xs.drop (i*6))∧Kept (fun b=>b=g) w w':=by
 by_cases hc:n+1≤cap
 ·refine(insB_room g cap n i vb vc xs cur w hr hx hl hc hi hvl h1v h1x hvb hne).mono fun e w' h=>?_
  exact⟨g,cap,h.1,hc,.inl rfl,h.2.1,h.2.2⟩
 refine(insB_grow g cap n i vb vc xs cur w hr hx hl hn (by omega) hbig hi hvl h1v h1x hvb hne).mono fun e w' h=>?_
 obtain⟨G,h1,h2,h3,h4⟩:=h
 exact⟨w.heap.size,G,h1,h2,.inr (Nat.le_refl _),h3,h4⟩

theorem SlW.cons {α:Type} {e:TypeId} {size:Nat} {R:ElemO α} {w w':World} {v:Value} {xs:List α} {S T:Blks} {cs:Nat→List Value} {U:Nat→Blks} {g g' G:Nat} {c:List Value} {x:α} {cur':Array Value} (hR:vF R) (h:SlW e size R w v xs S cs U) (hob:v.ownBlock=some g) (hx:R w c x T) (hl:c.length=size) (h1:∀u∈c,u.oneCell'=true) (hT:Apart S T) (hTi:InB w T)
  (hr:RowAt w' e g' G size cur') (hG:xs.length+1≤G) (ht:cur'.toList.take ((xs.length+1)*size)=c++(List.range xs.length).flatMap cs) (hk:Kept (fun b=>b=g) w w') (hg:g'=g∨w.heap.size≤g') :
  SlO e size R w' (.slice (some ⟨g',0,none⟩) (xs.length+1) G) (x::xs) (fun k=>S k∨T k∨k=g'):=by
 have hgs:=h.blk g hob
 have hg2:∀k,(S k∧k≠g)∨T k→k≠g':=fun k hk1 e1=>by
  rcases hg with a|a
  ·rcases hk1 with b|b
   ·exact b.2 (e1.trans a)
   exact hT k (by rw[e1,a];exact hgs) b
  rcases hk1 with b|b
  ·have:=h.inb k b.1;omega
  have:=hTi k b;omega
 have hlt:g'<w'.heap.size:=(Array.getElem?_eq_some_iff.1 hr.1).1
 have hne:∀m,m<xs.length→∀k,U m k→k≠g:=fun m hm k hk1 e1=>h.off m hm g hob (e1 ▸ hk1)
 refine⟨fun m=>match m with|0=>c|m+1=>cs m,fun m=>match m with|0=>T|m+1=>U m,?_,fun m hm=>?_,fun m hm=>?_,fun m hm=>?_,fun m n hm hn hmn=>?_,fun m hm g2 hh6=>?_,fun g2 hh6=>?_,fun m hm k hk2=>?_,?_⟩
 ·have hfl:(List.range (x::xs).length).flatMap (fun m=>match m with|0=>c|m+1=>cs m)=c++(List.range xs.length).flatMap cs:=by
   rw[List.length_cons,List.range_succ_eq_map,List.flatMap_cons,List.flatMap_map]
  rw[hfl]
  exact hr.own hG (by rw[List.length_append,hl,qO _ h.len,Nat.add_mul];omega) ht
 ·cases m with
  | zero=>exact hl
  | succ m=>exact h.len m (by simpa using hm)
 ·cases m with
  | zero=>exact h1
  | succ m=>exact h.one m (by simpa using hm)
 ·cases m with
  | zero=>exact hR _ _ _ _ _ hx (fun k hk1=>hk.block k (hTi k hk1) (fun e1=>hT k (by rw[e1];exact hgs) hk1)) hk.size
  | succ m=>
   have hm2:m<xs.length:=by simpa using hm
   exact hR _ _ _ _ _ (h.el m hm2) (fun k hk1=>hk.block k (h.inb k (h.sub m hm2 k hk1)) (hne m hm2 k hk1)) hk.size
 ·cases m with
  | zero=>
   cases n with
   | zero=>exact absurd rfl hmn
   | succ n=>exact fun k a b=>hT k (h.sub n (by simpa using hn) k b) a
  | succ m=>
   have hm2:m<xs.length:=by simpa using hm
   cases n with
   | zero=>exact fun k a b=>hT k (h.sub m hm2 k a) b
   | succ n=>exact h.two m n hm2 (by simpa using hn) (by omega)
 ·cases hh6
  cases m with
  | zero=>exact fun a=>hg2 g' (.inr a) rfl
  | succ m=>
   have hm2:m<xs.length:=by simpa using hm
   exact fun a=>hg2 g' (.inl ⟨h.sub m hm2 g' a,hne m hm2 g' a⟩) rfl
 ·cases hh6
  exact .inr (.inr rfl)
 ·cases m with
  | zero=>exact .inr (.inl hk2)
  | succ m=>exact .inl (h.sub m (by simpa using hm) k hk2)
 rintro k (a|a|a)
 ·exact(h.inb.mono hk.size) k a
 ·exact(hTi.mono hk.size) k a
 rw[a];exact hlt

theorem insB_slo {v:Value} {xs:List BlkL} {S T:Blks} {y:BlkL} {vc:List Value} {vb:Nat} (w:World) (hO:SlO 48 6 BlkO w v xs S) (h0:0<xs.length) (hbig:xs.length≤1000000) (hy:BlkO w vc y T) (hvl:vc.length=6) (h1v:∀u∈vc,u.oneCell'=true) (hT:Apart S T) (hTi:InB w T) (hvb:w.heap[vb]?=some (.cells vc.toArray 48 (0,0))) (hne:¬ S vb) :
  Calls Tryz.prog 52 #[v,.int .i64 0,.slice (some ⟨vb,0,none⟩) 1 1] w fun e w'=>
   ∃p c S',e = .returned (.slice p (xs.length+1) c)∧SlO 48 6 BlkO w' (.slice p (xs.length+1) c) (y::xs) S'∧(∀k,S' k→S k∨T k∨w.heap.size≤k)∧Kept S w w':=by
 obtain⟨cs,U,h⟩:=hO
 rcases h.own.2 with⟨_,h2⟩|⟨g,cap,cur,hv,hb,hg,hc1,hc2,hc3,htk⟩
 ·omega
 have hob:v.ownBlock=some g:=by rw[hv];rfl
 have hgs:=h.blk g hob
 rw[hv]
 have hfl:=qO xs.length h.len
 refine(insB_any g cap xs.length 0 vb vc _ cur w ⟨hg,hc3,hc2⟩ htk hfl hc1 hbig h0 hvl h1v (fun u hu=>?_) hvb (fun e1=>hne (by rw[e1];exact hgs))).mono fun e w' hh=>?_
 ·obtain⟨i,hi,hu⟩:=List.mem_flatMap.1 hu
  exact h.one i (List.mem_range.1 hi) u hu
 obtain⟨g',G,a1,a2,a3,⟨cur',a4,a5⟩,a6⟩:=hh
 rw[Nat.zero_mul,List.take_zero,List.nil_append,List.drop_zero]at a5
 refine⟨_,G,_,a1,h.cons qR hob hy hvl h1v hT hTi a4 a2 a5 a6 a3,fun k hk=>?_,a6.mono fun i hi e1=>by rw[e1];exact hgs⟩
 rcases hk with b|b|b
 ·exact .inl b
 ·exact .inr (.inl b)
 rcases a3 with c|c
 ·exact .inl (by rw[b,c];exact hgs)
 exact .inr (.inr (by omega))
end Go.Proofs.YtecdphhdmjmmnaaGreatDoor
namespace Go.Proofs
open Go.Shelf Go.Sort Go.RowKit Go.Lib
def Tryz.lays189_ren:Go.Shelf.Ren:=⟨fun|189=>76|125=>114|257=>113|128=>143|129=>144|294=>134|295=>135|296=>136|297=>137|298=>138|299=>139|216=>140|300=>141|301=>142|328=>162|329=>163|330=>164|331=>165|332=>166|215=>167|343=>173|n=>n,fun|28=>44|3=>3|46=>168|0=>0|51=>202|53=>204|4=>4|183=>195|182=>194|131=>191|5=>5|9=>9|218=>221|222=>225|228=>230|229=>231|n=>n,fun|n=>n⟩
theorem Tryz.lays189:Go.Proofs.Lays.n189 Tryz.prog Tryz.lays189_ren:={
 mixed:=by kernel_rfl
 f125:=Tryz.func114.trans (congrArg some (by kernel_rfl))
 f128:=Tryz.func143.trans (congrArg some (by kernel_rfl))
 f129:=Tryz.func144.trans (congrArg some (by kernel_rfl))
 f189:=Tryz.func76.trans (congrArg some (by kernel_rfl))
 f215:=Tryz.func167.trans (congrArg some (by kernel_rfl))
 f216:=Tryz.func140.trans (congrArg some (by kernel_rfl))
 f257:=Tryz.func113.trans (congrArg some (by kernel_rfl))
 f294:=Tryz.func134.trans (congrArg some (by kernel_rfl))
 f295:=Tryz.func135.trans (congrArg some (by kernel_rfl))
 f296:=Tryz.func136.trans (congrArg some (by kernel_rfl))
 f297:=Tryz.func137.trans (congrArg some (by kernel_rfl))
 f298:=Tryz.func138.trans (congrArg some (by kernel_rfl))
 f299:=Tryz.func139.trans (congrArg some (by kernel_rfl))
 f300:=Tryz.func141.trans (congrArg some (by kernel_rfl))
 f301:=Tryz.func142.trans (congrArg some (by kernel_rfl))
 f328:=Tryz.func162.trans (congrArg some (by kernel_rfl))
 f329:=Tryz.func163.trans (congrArg some (by kernel_rfl))
 f330:=Tryz.func164.trans (congrArg some (by kernel_rfl))
 f331:=Tryz.func165.trans (congrArg some (by kernel_rfl))
 f332:=Tryz.func166.trans (congrArg some (by kernel_rfl))
 f343:=Tryz.func173.trans (congrArg some (by kernel_rfl))
 t0:=Tryz.underlying0
 a0:=Tryz.isAgg0
 z0:=Tryz.sizeOf0
 v0:=Tryz.zeroValue0
 t3:=Tryz.underlying3
 a3:=Tryz.isAgg3
 z3:=Tryz.sizeOf3
 v3:=Tryz.zeroValue3
 t4:=Tryz.underlying4
 a4:=Tryz.isAgg4
 z4:=Tryz.sizeOf4
 v4:=Tryz.zeroValue4
 t5:=Tryz.underlying5
 a5:=Tryz.isAgg5
 z5:=Tryz.sizeOf5
 v5:=Tryz.zeroValue5
 t9:=Tryz.underlying9
 a9:=Tryz.isAgg9
 z9:=Tryz.sizeOf9
 v9:=Tryz.zeroValue9
 t28:=Tryz.underlying44
 a28:=Tryz.isAgg44
 z28:=Tryz.sizeOf44
 v28:=Tryz.zeroValue44
 t46:=Tryz.underlying168
 a46:=Tryz.isAgg168
 z46:=Tryz.sizeOf168
 v46:=Tryz.zeroValue168
 t51:=Tryz.underlying202
 a51:=Tryz.isAgg202
 z51:=Tryz.sizeOf202
 v51:=Tryz.zeroValue202
 t53:=Tryz.underlying204
 a53:=Tryz.isAgg204
 z53:=Tryz.sizeOf204
 v53:=Tryz.zeroValue204
 t131:=Tryz.underlying191
 a131:=Tryz.isAgg191
 z131:=Tryz.sizeOf191
 v131:=Tryz.zeroValue191
 t182:=Tryz.underlying194
 a182:=Tryz.isAgg194
 z182:=Tryz.sizeOf194
 v182:=Tryz.zeroValue194
 t183:=Tryz.underlying195
 a183:=Tryz.isAgg195
 z183:=Tryz.sizeOf195
 v183:=Tryz.zeroValue195
 t218:=Tryz.underlying221
 a218:=Tryz.isAgg221
 z218:=Tryz.sizeOf221
 v218:=Tryz.zeroValue221
 t222:=Tryz.underlying225
 a222:=Tryz.isAgg225
 z222:=Tryz.sizeOf225
 v222:=Tryz.zeroValue225
 t228:=Tryz.underlying230
 a228:=Tryz.isAgg230
 z228:=Tryz.sizeOf230
 v228:=Tryz.zeroValue230
 t229:=Tryz.underlying231
 a229:=Tryz.isAgg231
 z229:=Tryz.sizeOf231
 v229:=Tryz.zeroValue231 }
theorem Tryz.slices_Sort_int (blk off cap:Nat) (zs:List Int) (w:World) (hH:Holds (Value.int .i64) w blk off zs.toArray) (hblk:blk<w.heap.size) (hsz:zs.length<4611686018427387904) :
  Calls Tryz.prog 76 #[.slice (some ⟨blk,off,none⟩) zs.length cap] w fun e w'=>
   e = .returned (.tuple #[])∧∃n os,w'=grow (putRow (Value.int .i64) (Sort.ahead w n) blk off (zs.mergeSort fun x y=>decide (x≤y)).toArray) os:=Any.slices_Sort_int Tryz.lays189 blk off cap zs w hH hblk hsz
def Tryz.laysNm220_ren:Go.Shelf.Ren:=⟨fun|20=>77|n=>n,fun|22=>44|3=>3|4=>4|0=>0|n=>n,fun|n=>n⟩
theorem Tryz.laysNm220:Go.Proofs.Lays2.n20 Tryz.prog Tryz.laysNm220_ren:={
 mixed:=by kernel_rfl
 f20:=Tryz.func77.trans (congrArg some (by kernel_rfl))
 t0:=Tryz.underlying0
 a0:=Tryz.isAgg0
 z0:=Tryz.sizeOf0
 v0:=Tryz.zeroValue0
 t3:=Tryz.underlying3
 a3:=Tryz.isAgg3
 z3:=Tryz.sizeOf3
 v3:=Tryz.zeroValue3
 t4:=Tryz.underlying4
 a4:=Tryz.isAgg4
 z4:=Tryz.sizeOf4
 v4:=Tryz.zeroValue4
 t22:=Tryz.underlying44
 a22:=Tryz.isAgg44
 z22:=Tryz.sizeOf44
 v22:=Tryz.zeroValue44
 i3:=by kernel_rfl }
theorem Tryz.slices_Compact_int (blk off cap:Nat) (zs:List Int) (w:World) (hH:Holds (Value.int .i64) w blk off zs.toArray) (hsz:zs.length≤9223372036854775807) (hcap:zs.length≤cap) :
  Calls Tryz.prog 77 #[.slice (some ⟨blk,off,none⟩) zs.length cap] w fun e w'=>e = .returned (.slice (some ⟨blk,off,none⟩) (Lib.compact zs).length cap)∧∃q,w'=putRow (Value.int .i64) (Sort.ahead w q) blk off (Lib.compact zs++List.replicate (zs.length - (Lib.compact zs).length) 0).toArray:=Any.slices_Compact_int Tryz.laysNm220 blk off cap zs w hH hsz hcap
theorem Tryz.slices_Compact_int_empty (a:Option Addr) (cap:Nat) (w:World) :
  Calls Tryz.prog 77 #[.slice a 0 cap] w fun e w'=>e = .returned (.slice a 0 cap)∧w'=w:=Any.slices_Compact_int_empty Tryz.laysNm220 a cap w
theorem Tryz.slices_Sort_int_none (p:Option Addr) (cap:Nat) (w:World) :
  Calls Tryz.prog 76 #[.slice p 0 cap] w fun e w'=>e = .returned (.tuple #[])∧w'=w:=Any.slices_Sort_int_none Tryz.lays189 p cap w
end Go.Proofs
namespace Go.Proofs.YtecdphhdmjmmnaaGreatDoor
open Go.RowKit Go.Shelf Go.Lib Go.Sort

def xe (zs:List Int):List Int:=zs.mergeSort fun x y=>decide (x≤y)
theorem QX (zs:List Int):(xe zs).length=zs.length:=by unfold xe;simp

theorem Qe {w:World} {g q:Nat} {d:Array Int}:w.grownBy (putRow (Value.int .i64) (Sort.ahead w q) g 0 d) (some g):=by
 refine⟨rfl,rfl,rfl,by simp[putRow,mapBlock,Sort.ahead],fun k _ hne=>?_⟩
 have:g≠k:=fun e=>hne (by rw[e])
 simp[putRow,mapBlock,Sort.ahead,Array.getElem?_modify,this]
theorem Kr {w:World} {os:Array Obj}:w.grownBy (grow w os) none:=by
 refine⟨rfl,rfl,rfl,by simp,fun k hk _=>?_⟩
 rw[heap_grow_old _ _ hk]

theorem sort_own (B:Nat) (p:Option Addr) (c:Nat) (zs:List Int) (n:Nat) (w:World) (h:w.ownsRow B 3 1 (.slice p n c) n (zs.map (.int .i64))) (hn:n≤1000000) :
  Calls Tryz.prog 76 #[.slice p n c] w fun e w'=>e = .returned (.tuple #[])∧w'.ownsRow B 3 1 (.slice p n c) n ((xe zs).map (.int .i64))∧w.grownBy w' (Value.slice p n c).ownBlock:=by
 by_cases hv:(Value.slice p n c) = .slice none 0 0
 ·cases hv
  have hz:zs=[]:=by have:=h.1;simpa using this
  subst hz
  refine(Tryz.slices_Sort_int_none none 0 w).mono ?_
  rintro e w' ⟨rfl,rfl⟩
  exact⟨rfl,(by simpa[xe]using h),⟨rfl,rfl,rfl,Nat.le_refl _,fun _ _ _=>rfl⟩⟩
 obtain⟨g,cap,hg,hb,hlt,hc,hm,hl,hH⟩:=holds_of_ownsRow h hv
 cases hg
 subst hl
 refine(Tryz.slices_Sort_int g 0 c zs w hH hlt (by omega)).mono ?_
 rintro e w' ⟨rfl,q,os,rfl⟩
 have h1:=ownsRow_putRow (ys:=xe zs) (q:=q) (k:=zs.length) h (QX zs) (Nat.le_refl _)
 have e1:(xe zs).take zs.length=xe zs:=by rw[←QX zs];exact List.take_length
 rw[e1]at h1
 exact⟨rfl,h1.kept Kr (.inr (by simp[Value.ownBlock])),grownBy_sortedI _⟩

theorem V0 (B:Nat) (p:Option Addr) (c:Nat) (zs:List Int) (n:Nat) (w:World) (h:w.ownsRow B 3 1 (.slice p n c) n (zs.map (.int .i64))) (hn:n≤1000000) :
  Calls Tryz.prog 77 #[.slice p n c] w fun e w'=>e = .returned (.slice p (Lib.compact zs).length c)∧w'.ownsRow B 3 1 (.slice p (Lib.compact zs).length c) (Lib.compact zs).length ((Lib.compact zs).map (.int .i64))∧w.grownBy w' (Value.slice p n c).ownBlock:=by
 by_cases hv:(Value.slice p n c) = .slice none 0 0
 ·cases hv
  have hz:zs=[]:=by have:=h.1;simpa using this
  subst hz
  refine(Tryz.slices_Compact_int_empty none 0 w).mono ?_
  rintro e w' ⟨rfl,rfl⟩
  exact⟨rfl,h,⟨rfl,rfl,rfl,Nat.le_refl _,fun _ _ _=>rfl⟩⟩
 obtain⟨g,cap,hg,hb,hlt,hc,hm,hl,hH⟩:=holds_of_ownsRow h hv
 cases hg
 subst hl
 refine(Tryz.slices_Compact_int g 0 c zs w hH (by omega) hc).mono ?_
 rintro e w' ⟨rfl,q,rfl⟩
 have hle:(Lib.compact zs).length≤zs.length:=by
  unfold Lib.compact compactUpTo
  rw[List.length_map]
  exact Nat.le_trans (List.length_filter_le _ _) (by simp)
 have h1:=ownsRow_putRow (ys:=Lib.compact zs++List.replicate (zs.length - (Lib.compact zs).length) 0) (q:=q) (k:=(Lib.compact zs).length) h (by simp;omega) hle
 rw[List.take_left' rfl]at h1
 exact⟨rfl,h1,Qe⟩
end Go.Proofs.YtecdphhdmjmmnaaGreatDoor
namespace Go.Proofs.YtecdphhdmjmmnaaGreatDoor
open Go.RowKit Go.Shelf
attribute [local go_sem] Oper.semAt_some

structure BackSh (X:Nat) (p:Option Addr) (c:Nat) (xs:List Int) (W:World):Prop where
 box:W.cell? ⟨X,0,none⟩=some (.slice p xs.length c)
 el:∀i (h:i<xs.length),∃b o,p=some ⟨b,o,none⟩∧W.cell? ⟨b,o+i,none⟩=some (.int .i64 xs[i])
theorem BackSh.other {X c:Nat} {p:Option Addr} {xs:List Int} {W W':World} (h:BackSh X p c xs W) (hk:∀b o v,W.cell? ⟨b,o,none⟩=some v→(b=X∨∃o,p=some ⟨b,o,none⟩)→W'.cell? ⟨b,o,none⟩=some v):BackSh X p c xs W':=
 ⟨hk _ _ _ h.box (.inl rfl),fun i hi=>by
  obtain⟨b,o,hp,hc⟩:=h.el i hi
  exact⟨b,o,hp,hk _ _ _ hc (.inr ⟨o,hp⟩)⟩⟩
theorem BackSh.putObj {X c:Nat} {p:Option Addr} {xs:List Int} {W:World} (h:BackSh X p c xs W) {l:Nat} {o:Obj} (o':Obj) (hl:W.heap[l]?=some o) (ho:o.isCells=false):BackSh X p c xs (W.putObj l o'):=
 h.other fun b o v hc _=>by
  have hne:b≠l:=xX hl ho hc
  exact(World.cell?_of_block (a:=⟨b,o,none⟩) (World.putObj_heap_other (by omega))).trans hc
theorem own_back {X c:Nat} {p:Option Addr} {xs:List Int} {B:Nat}:OwnFrom B (fun(_:Nat) W=>BackSh X p c xs W):=fun s W W' row hs hg hr=>
 hs.other fun b o v hc _=>(World.cell?_of_block (a:=⟨b,o,none⟩) (hg.block b (q8 hc) (fun e=>by
  obtain⟨_,x,hx,hn⟩:=hr b e.symm
  exact xX hx hn hc rfl))).trans hc

def VH (xs:List Int) (i:Nat):Array Value:=#[.int .i64 ((xs.length - 1 - i:Nat):Int),.int .i64 (xs.getD (xs.length - 1 - i) 0)]

theorem J1 (p:Option Addr) (n c:Nat) (w:World) :
  Calls Tryz.prog 129 #[.slice p n c] w fun e w'=>e = .returned (.func (.func 160) #[] #[.pointer (some ⟨w.heap.size,0,none⟩)])∧w'=w.alloc (.cells #[.slice p n c] 44):=by
 go_enter Tryz.func129,Tryz.ntmps129
 go_wp2
 go_ret
 exact⟨rfl,rfl⟩

theorem back_at (F:Fence) (n:Nat) (hF:F.fn 160) (hro:F.round=none) (hn:1≤n) (X c:Nat) (p:Option Addr) (xs:List Int) (w:World) (hl:xs.length≤140737488355328) (hsh:BackSh X p c xs w) :
  SeqAt F n Tryz.prog 160 #[.pointer (some ⟨X,0,none⟩)] (VH xs) xs.length (fun W W'=>BackSh X p c xs W→BackSh X p c xs W') w:=by
 intro l J Jx W hW _ _ hY h0
 have HS:=q7 (hsh.other (W':=W) fun b o v hc _=>(hW.cell (p:=⟨b,o,none⟩) (q8 hc)).trans hc)
 have HY:=q7 hY
 clear hsh hY hW
 refine callsIn_of_wp Tryz.func160 rfl hF ?_ hro
 simp only[Tryz.ntmps160,List.size_toArray,List.length_cons,List.length_nil,Nat.reduceAdd,Nat.reduceSub,Array.replicate_succ,Array.replicate_zero,List.push_toArray,List.append_toArray,List.nil_append,List.cons_append]
 have cb:=HS.out.box
 gi_wp2
 gi_loopw [3] (fun i wr=>∃m:Nat,m≤xs.length∧i = .int .i64 ((xs.length:Int) - 1 - m)∧J m wr∧BackSh X p c xs wr) (fun i _=>(intOf i+1).toNat)
 case atStart=>exact⟨0,by omega,by simp,h0,HS.out⟩
 case round=>
  clear cb
  obtain⟨m,hm,rfl,hJ,hK⟩:=hrel
  have cb:=hK.box
  have HK:=q7 hK
  clear hK
  by_cases hlt:m<xs.length
  rotate_left
  ·obtain rfl:m=xs.length:=by omega
   gi_wp2
   go_end0
   exact⟨⟨_,rfl⟩,.inl hJ⟩
  have hk:xs.length - 1 - m<xs.length:=by omega
  obtain⟨b,o,rfl,e1⟩:=HK.out.el _ hk
  have hj:(xs.length:Int) - 1 - m=((xs.length - 1 - m:Nat):Int):=by omega
  obtain⟨fn,tmps,assign,body,hy,hR⟩:=HY.out _ wr hlt hJ
  have he:VH xs m=#[.int .i64 ((xs.length - 1 - m:Nat):Int),.int .i64 (xs[xs.length - 1 - m])]:=by
   unfold VH
   rw[List.getD_eq_getElem?_getD,List.getElem?_eq_getElem hk]
   rfl
  rw[he]at hy
  rw[hj]
  generalize hkk:xs.length - 1 - m=k at *
  have HKK:=q7 hkk
  have HR:=q7 hR
  clear hR he hj hkk
  gi_wp2
  refine HR.out.mono ?_
  rintro e W3 (⟨rfl,hJ3,hk3⟩|⟨rfl,hJx3⟩)
  ·have HK3:=q7 (hk3 HK.out)
   clear hk3
   gi_wp2
   go_roundw
   case rel=>exact⟨m+1,by omega,by have:=HKK.out;congr 1;omega,hJ3,HK3.out⟩
   case measure=>simp[intOf]
  gi_wp2
  refine bodyPost_ret (results_none rfl _ _ _) rfl ?_
  exact⟨⟨_,rfl⟩,.inr ⟨_,hlt,hJx3⟩⟩
end Go.Proofs.YtecdphhdmjmmnaaGreatDoor
namespace Go.Proofs.YtecdphhdmjmmnaaGreatDoor
open Go.RowKit Go.Shelf

structure RowsT (w:World) (B T n:Nat) (ts ti:TypeId) (f:Nat→Value) (rows:Nat→List Int):Prop where
 tab:w.rowIs T ts n f
 row:∀j,j<n→w.ownsRow B ti 1 (f j) (rows j).length ((rows j).map (.int .i64))
 two:∀j k,j<n→k<n→j≠k→(f j).ownBlock=none∨(f j).ownBlock≠(f k).ownBlock
 low:T<B

theorem RowsT.made (w:World) (n B:Nat) (ts ti:TypeId) (hB:w.heap.size<B):RowsT (w.alloc (.cells (madeCells #[.slice none 0 0] n) ts)) B w.heap.size n ts ti (fun _=>.slice none 0 0) (fun _=>[]):=
 ⟨World.rowIs_made w _ n ts,fun _ _=>World.ownsRow_nil _ _ _ _,fun _ _ _ _ _=>.inl rfl,hB⟩
theorem RowsT.below {w w':World} {B T n:Nat} {ts ti:TypeId} {f:Nat→Value} {rows:Nat→List Int} (h:RowsT w B T n ts ti f rows) (hb:Below w.heap.size w w'):RowsT w' B T n ts ti f rows:=
 ⟨h.tab.of_block (hb.block T h.tab.lt),fun j hj=>xP (h.row j hj) hb,h.two,h.low⟩
theorem RowsT.congr {w:World} {B T n:Nat} {ts ti:TypeId} {f:Nat→Value} {rows rows':Nat→List Int} (h:RowsT w B T n ts ti f rows) (e:∀j,j<n→rows j=rows' j):RowsT w B T n ts ti f rows':=
 ⟨h.tab,fun j hj=>by rw[←e j hj];exact h.row j hj,h.two,h.low⟩
theorem RowsT.grown {w w':World} {B T n:Nat} {ts ti:TypeId} {f:Nat→Value} {rows:Nat→List Int} {r:Option Nat} (h:RowsT w B T n ts ti f rows) (hg:w.grownBy w' r) (hr:r=none∨(r≠some T∧∀j,j<n→(f j).ownBlock=none∨(f j).ownBlock≠r)):RowsT w' B T n ts ti f rows:=by
 rcases hr with rfl|⟨h1,h2⟩
 ·exact⟨h.tab.of_block (hg.block T h.tab.lt (by simp)),fun j hj=>(h.row j hj).kept hg (by cases(f j).ownBlock with|none=>exact .inl rfl|some k=>exact .inr (by simp)),h.two,h.low⟩
 exact⟨h.tab.of_block (hg.block T h.tab.lt (fun e=>h1 e.symm)),fun j hj=>(h.row j hj).kept hg (h2 j hj),h.two,h.low⟩

theorem RowsT.turn {w w':World} {B T n:Nat} {ts ti:TypeId} {f:Nat→Value} {rows:Nat→List Int} {t:Nat} {v':Value} {xs:List Int} (h:RowsT w B T n ts ti f rows) (ht:t<n)
  (htab:w'.rowIs T ts n (fun j=>if j=t then v' else f j)) (hown:w'.ownsRow B ti 1 v' xs.length (xs.map (.int .i64)))
  (hblk:∀k,k<w.heap.size→k≠T→some k≠(f t).ownBlock→w'.heap[k]?=w.heap[k]?) (_hs:w.heap.size≤w'.heap.size)
  (hv:v'.ownBlock=(f t).ownBlock∨∃k,v'.ownBlock=some k∧w.heap.size≤k) :
  RowsT w' B T n ts ti (fun j=>if j=t then v' else f j) (fun j=>if j=t then xs else rows j):=by
 have hlow:∀j,j<n→∀k,(f j).ownBlock=some k→B≤k∧k<w.heap.size:=fun j hj k hk=>(h.row j hj).lt k hk
 have keep:∀j,j<n→j≠t→w'.ownsRow B ti 1 (f j) (rows j).length ((rows j).map (.int .i64)):=fun j hj hjt=>by
  have ho:=h.row j hj
  refine⟨ho.1,?_⟩
  rcases ho.2 with hn|⟨g,cap,cur,hfg,hb,hgg,rest⟩
  ·exact .inl hn
  have hob:(f j).ownBlock=some g:=by rw[hfg];rfl
  refine .inr ⟨g,cap,cur,hfg,hb,?_,rest⟩
  rw[hblk g (Array.getElem?_eq_some_iff.1 hgg).1 (by have:=h.low;omega) (fun e=>?_)]
  ·exact hgg
  rcases h.two j t hj ht hjt with g1|g1
  ·rw[hob]at g1;cases g1
  exact g1 (by rw[hob,e])
 refine⟨htab,fun j hj=>?_,fun j k hj hk hjk=>?_,h.low⟩
 ·by_cases hjt:j=t
  ·simp only[if_pos hjt];exact hown
  simp only[if_neg hjt];exact keep j hj hjt
 show(if j=t then v' else f j).ownBlock=none∨(if j=t then v' else f j).ownBlock≠(if k=t then v' else f k).ownBlock
 by_cases hjt:j=t
 ·have hkt:k≠t:=fun e=>hjk (hjt.trans e.symm)
  rw[if_pos hjt,if_neg hkt]
  rcases hv with e|⟨q,e,hq⟩
  ·rw[e];exact h.two t k ht hk (fun e=>hkt e.symm)
  refine .inr (fun g=>?_)
  have:=(hlow k hk _ (g.symm.trans e)).2
  omega
 rw[if_neg hjt]
 by_cases hkt:k=t
 ·rw[if_pos hkt]
  rcases hv with e|⟨q,e,hq⟩
  ·rw[e];exact h.two j t hj ht hjt
  cases hb:(f j).ownBlock with
  | none=>exact .inl rfl
  | some p=>exact .inr (fun g=>by have:=(hlow j hj p hb).2;rw[e]at g;injection g with g;omega)
 rw[if_neg hkt];exact h.two j k hj hk hjk
theorem RowsT.cell {w:World} {B T n:Nat} {ts ti:TypeId} {f:Nat→Value} {rows:Nat→List Int} (h:RowsT w B T n ts ti f rows) {t:Nat} (ht:t<n):∃q c,f t = .slice q (rows t).length c:=by
 obtain⟨p,c,hp⟩:=zZ (h.row t ht)
 exact⟨p,c,hp⟩
theorem RowsT.reads {w:World} {B T n:Nat} {ts ti:TypeId} {f:Nat→Value} {rows:Nat→List Int} (h:RowsT w B T n ts ti f rows) (hI:∀j,j<n→(rows j).length≤140737488355328∧∀x∈rows j,I64 x):SliceAt w 1 (IntsR w) (some ⟨T,0,none⟩) ((List.range n).map rows):=by
 refine .inr ⟨T,0,rfl,fun i hi=>?_⟩
 have hi2:i<n:=by simpa using hi
 obtain⟨hl,hx⟩:=hI i hi2
 obtain⟨q,d,hq,hs⟩:=VA rfl (h.row i hi2) hx
 refine⟨[.slice q (rows i).length d],rfl,fun j hj=>?_,?_⟩
 ·obtain rfl:j=0:=by omega
  simp only[Nat.zero_add,Nat.mul_one,Nat.add_zero,List.getElem?_cons_zero]
  rw[h.tab.cell hi2,hq]
 have e:((List.range n).map rows)[i]=rows i:=by simp
 rw[e]
 exact⟨q,d,rfl,hl,hs⟩

def J2 (Ds:List Nat):List Deferred:=Ds.map fun D=>{ target:=.collected D,args:=#[] }
theorem xD {F:Fence} {n:Nat} {P:Program} {fn:Func} {tmps:Array Value} {R:Ending→World→Prop} (B:Nat):∀(Ds:List Nat) (w:World),Ds.Nodup→(∀D∈Ds,B≤D∧w.heap[D]?=some (.deferred (some [])))→
  (∀w',w'.os=w.os→w'.tape=w.tape→w'.output=w.output→w.heap.size≤w'.heap.size→(∀k,k∉Ds→w'.heap[k]?=w.heap[k]?)→∃v,(results fn tmps).run P w' = .ok v w'∧R (.returned v) w')→LeavesInM F n P fn tmps R (J2 Ds) .returning w
 | [],w,_,_,h=>h w rfl rfl rfl (Nat.le_refl _) (fun _ _=>rfl)
 | D::Ds,w,hn,hD,h=>by
  obtain⟨hn1,hn2⟩:=List.nodup_cons.1 hn
  refine⟨by simp,.inl ⟨D,_,rfl,run_takeDeferred (hD D List.mem_cons_self).2,?_⟩⟩
  refine xD B Ds _ hn2 (fun E hE=>?_) (fun w' h1 h2 h3 h4 h5=>?_)
  ·obtain⟨a,b⟩:=hD E (List.mem_cons_of_mem _ hE)
   exact⟨a,(World.putObj_heap_other (fun e=>hn1 (by rw[←e];exact hE))).trans b⟩
  refine h w' h1 h2 h3 (by simpa using h4) (fun k hk=>?_)
  rw[h5 k (fun hh=>hk (List.mem_cons_of_mem _ hh))]
  exact World.putObj_heap_other (fun e=>hk (by rw[e];exact List.mem_cons_self))
end Go.Proofs.YtecdphhdmjmmnaaGreatDoor
