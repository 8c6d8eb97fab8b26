/-
  The contract of slices.Index at numbers that are there (a text of its own: it needs nothin
-/
import Derived.Lib.Overlaps
import Derived.Laws.Externs
import Derived.Test.YtgjjhadbjmcnpaaGreatDoorJArgH
set_option maxRecDepth 100000
set_option maxHeartbeats 16000000
namespace Go.Proofs.YtgjjhadbjmcnpaaGreatDoor
open Go.RowKit Go.Shelf

section
variable {P : Program}
theorem wpList_copy_row {ops:Array Oper} {rest:List Oper} {o:Oper} {a:Act} {w:World} {Q:Exit→Act→World→Prop} (hgd:o.guard=none) (d s:Operand) (t t':TypeId)
  (ho:o.op = .call { callee:=.builtin .copy,args:=#[d,s],argTypes:=#[t,t'] }) (v u:Value) (hd:a.eval d=v) (hs:a.eval s=u) {v':Value} {w':World}
  (hr:(Builtin.copy_ #[t,t'] o.type #[v,u]).run P w = .ok v' w') (h:wpList P ops Q rest (a.put o.dst v') w'):wpList P ops Q (o::rest) a w:=by
 refine wpList_plain hgd fun K hK=>?_
 unfold Oper.wp execOp
 simp only [ho,resolve,invoke,builtin,Sem.run_bind,Sem.run_pure,Result.andThen_ok,List.map_toArray,List.map_cons,List.map_nil,hd,hs,hr]
 exact hK _ _ h
theorem step_copy_row {ops:Array Oper} {o:Oper} {a:Act} {w:World} {K:Act→World→Prop} {Q:Exit→Act→World→Prop} {E:Prop}
  (hg:o.guard=none) (d x:Operand) (dT sT:TypeId) (hop:o.op=Op.call { callee:=Callee.builtin Builtin.copy,args:=#[d,x],argTypes:=#[dT,sT] })
  (v u:Value) (hd:a.eval d=v) (hx:a.eval x=u) {v':Value} {w':World} (hr:(Builtin.copy_ #[dT,sT] o.type #[v,u]).run P w = .ok v' w') (hK:K (a.put o.dst v') w') :
  if Region.wanted o (yielded ops a.tmps)=true then Oper.wp P o a w K Q else E:=by
 have hw:Region.wanted o (yielded ops a.tmps)=true:=by simp [Region.wanted,hg]
 rw [if_pos hw]
 unfold Oper.wp
 simp [execOp,hop,resolve,invoke,builtin,hd,hx,hr,Result.andThen]
 exact hK
theorem wpList_append_row {ops:Array Oper} {rest:List Oper} {o:Oper} {a:Act} {w:World} {Q:Exit→Act→World→Prop} (hgd:o.guard=none) (s x:Operand) (t:TypeId)
  (ho:o.op=Op.call { callee:=Callee.builtin Builtin.append,args:=#[s,x],argTypes:=#[t,t] })
  (e:TypeId) (i:TypeInfo) (size:Nat) (ht:P.underlying t=some (.slice e)) (hi:P.info? e=some i) (hsz:i.size=size)
  (g n cap:Nat) (cur:Array Value) (hs:a.eval s = .slice (some ⟨g,0,none⟩) n cap) (hr:RowAt w e g cap size cur)
  (ad:Addr) (m c:Nat) (news:List Value) (hx:a.eval x = .slice (some ad) m c) (hn:news.length=m*size) (hc:∀j u,news[j]?=some u→w.cell? (ad.add j)=some u) (h1c:∀u∈news,u.oneCell'=true)
  (hroom:n+m≤cap)
  (h:wpList P ops Q rest (a.put o.dst (.slice (some ⟨g,0,none⟩) (n+m) cap)) (w.setRow g (cur.toList.take (n*size)++news++cur.toList.drop (n*size+news.length)).toArray)) :
  wpList P ops Q (o::rest) a w:=by
 refine wpList_plain hgd fun K hK=>?_
 subst hsz
 have hfit:n*i.size+news.length≤cur.size:=by rw [hn,hr.2.1,←Nat.add_mul];exact Nat.mul_le_mul_right _ hroom
 have hrun:=run_append_room (P:=P) w t o.type e i ht hi g n cap cur hr.1 ad m c news hn hc h1c hroom hfit
 unfold Oper.wp execOp
 simp only [ho,resolve,invoke,builtin,Sem.run_bind,Sem.run_pure,Result.andThen_ok,List.map_toArray,List.map_cons,List.map_nil,hs,hx,hrun]
 exact hK _ _ h
end

theorem shape_row {w:World} {g:Nat} {cur:Array Value} {e:TypeId} (h:w.heap[g]?=some (.cells cur e (0,0))):w.shape? g=some (e,cur.size):=by
 simp [World.shape?,h]

theorem QL (g cap n i vb:Nat) (x:Bool×Int) (xs:List (Bool×Int)) (cur:Array Value) (w:World) (hr:RowAt w 44 g cap 2 cur) (hx:cur.toList.take (n*2)=qS xs) (hl:xs.length=n) (hn:n+1≤cap) (hi:i≤n) (hvb:w.heap[vb]?=some (.cells #[.bool x.1,.int .i64 x.2] 44 (0,0))) (hne:vb≠g) :
  Calls Tryz.prog 107 #[.slice (some ⟨g,0,none⟩) n cap,.int .i64 i,.slice (some ⟨vb,0,none⟩) 1 1] w fun e w'=>
   e = .returned (.slice (some ⟨g,0,none⟩) (n+1) cap)∧(∃cur',RowAt w' 44 g cap 2 cur'∧cur'.toList.take ((n+1)*2)=qS (xs.take i++x::xs.drop i))∧Kept (fun b=>b=g) w w':=by
 obtain ⟨i1,k1,k2,k3,k4⟩:=info_parts kj
 have hcm:cap≤9223372036854775807:=hr.2.2
 have hcs:=hr.2.1
 have hxc:∀j u,(qS [x])[j]?=some u→w.cell? ((⟨vb,0,none⟩:Addr).add j)=some u:=fun j u hu=>by
  rw [ju,cell_of_row w vb _ _ _ (0,0) hvb,Nat.zero_add]
  simpa [qS] using hu
 by_cases he:i=n
 ·subst he
  have HR:=q8 hr
  have HX:=q8 hxc
  have HK:=q8 (And.intro hx hl)
  clear hr hxc hx hl hvb
  go_enter Tryz.func107,Tryz.ntmps107
  go_wp2_with (at_builtin;refine wpList_append_row rfl _ _ 40 rfl 44 i1 2 Tryz.underlying40 k1 k3 g i cap cur rfl HR.out ⟨vb,0,none⟩ 1 1 (qS [x]) rfl rfl HX.out (ks _) hn ?_)
  go_ret
  obtain ⟨hx,hl⟩:=HK.out
  have hput:(cur.toList.take (i*2)++qS [x]++cur.toList.drop (i*2+(qS [x]).length)).length=cap*2:=by
   simp only [List.length_append,List.length_take,List.length_drop,Array.length_toList,hcs,zQ,List.length_cons,List.length_nil]
   omega
  have hin:cur.toList.take (i*2)++qS [x]=qS (xs.take i++x::xs.drop i):=by
   rw [hx,List.take_of_length_le (by omega),List.drop_eq_nil_of_le (by omega),kr]
  have hlen:(cur.toList.take (i*2)++qS [x]).length=(i+1)*2:=by
   simp only [List.length_append,List.length_take,Array.length_toList,hcs,zQ,List.length_cons,List.length_nil]
   omega
  have hrow:=HR.out.put hput
  have hkp:=HR.out.keep (cur.toList.take (i*2)++qS [x]++cur.toList.drop (i*2+(qS [x]).length)).toArray
  have hfin:List.take ((i+1)*2) (cur.toList.take (i*2)++qS [x]++cur.toList.drop (i*2+(qS [x]).length))=qS (xs.take i++x::xs.drop i):=by
   rw [←hlen,List.take_left,hin]
  simp only [List.append_assoc] at hrow hkp hfin ⊢
  exact ⟨rfl,⟨_,hrow,hfin⟩,hkp⟩
 have hlt:i<n:=by omega
 have hov:∀lb cb,(callFunc 114 #[.slice (some ⟨vb,0,none⟩) 1 1,.slice (some ⟨g,(i+1)*2,none⟩) lb cb]).run Tryz.prog w = .ok (.value (.bool false)) w:=fun lb cb=>by
  have hrb:=shape_row hr.1
  have haF:cur.size≠0:=by omega
  rw [run_callFunc_extern Tryz.func114 (by kernel_rfl) (by kernel_rfl) (by kernel_rfl) (e:=Extern.SlicesOverlaps.overlaps #[40,40] #[4]) (by kernel_rfl),
   Lib.run_overlaps_apart w 40 4 44 Tryz.underlying40 2 Tryz.sizeOf44 ⟨vb,0,none⟩ ⟨g,(i+1)*2,none⟩ 1 1 lb cb hne 44 44 2 cur.size (shape_row hvb) hrb haF ((blk hvb).2 0) ((blk hvb).2 2)]
  rfl
 have hsz:(Tryz.prog.info? 44).map (·.size)=some 2:=by rw [k1];simp [k3]
 have hdl:(qS (xs.drop i)).length=(n - i)*2:=by rw [zQ,List.length_drop,hl]
 have hget:∀t u,(qS (xs.drop i))[t]?=some u→cur[i*2+t]?=some u:=fun t u hu=>by
  rw [kN,List.getElem?_drop,←hx] at hu
  rw [←Array.getElem?_toList]
  rw [List.getElem?_take] at hu
  split at hu
  ·exact hu
  cases hu
 obtain ⟨c1,hc1⟩:∃c1:List Value,c1=cur.toList.take ((i+1)*2)++qS (xs.drop i)++cur.toList.drop ((i+1)*2+(qS (xs.drop i)).length):=⟨_,rfl⟩
 have haX:c1.length=cap*2:=by
  rw [hc1]
  simp only [List.length_append,List.length_take,List.length_drop,Array.length_toList,hcs,hdl]
  omega
 obtain ⟨W1,hW1⟩:∃W1,W1=w.drew.setRow g c1.toArray:=⟨_,rfl⟩
 have hr1:RowAt W1 44 g cap 2 c1.toArray:=by rw [hW1];exact hr.drew.put haX
 have hcp1:∀ty dc sc,(Builtin.copy_ #[40,40] ty #[.slice (some ⟨g,(i+1)*2,none⟩) (n - i) dc,.slice (some ⟨g,i*2,none⟩) (n+1 - i) sc]).run Tryz.prog w.drew = .ok (goInt (Nat.min (n+1 - i) (n - i):Nat)) W1:=fun ty dc sc=>by
  have:=jC (P:=Tryz.prog) w.drew 40 40 ty 44 g ((i+1)*2) (n - i) dc 2 ⟨g,i*2,none⟩ (n+1 - i) sc cur 44 (qS (xs.drop i)) Tryz.underlying40 hsz hr.drew.1
   (by rw [hdl,show Nat.min (n+1 - i) (n - i)=n - i by simp only [Nat.min_def];split<;>omega]) (fun j v hj=>by rw [ju];exact (hr.drew.cell _).trans (hget j v hj)) (by rw [hdl,hcs];omega) (ks _)
  rw [this,←hc1,←hW1]
 have hcp2:∀ty dc,(Builtin.copy_ #[40,40] ty #[.slice (some ⟨g,i*2,none⟩) (n+1 - i) dc,.slice (some ⟨vb,0,none⟩) 1 1]).run Tryz.prog W1 = .ok (goInt (Nat.min 1 (n+1 - i):Nat)) (W1.setRow g (c1.toArray.toList.take (i*2)++qS [x]++c1.toArray.toList.drop (i*2+(qS [x]).length)).toArray):=fun ty dc=>
  jC (P:=Tryz.prog) W1 40 40 ty 44 g (i*2) (n+1 - i) dc 2 ⟨vb,0,none⟩ 1 1 c1.toArray 44 (qS [x]) Tryz.underlying40 hsz hr1.1
   (by rw [zQ,show Nat.min 1 (n+1 - i)=1 by simp only [Nat.min_def];split<;>omega];rfl) (fun j v hj=>by
    have h1:=hxc j v hj
    rw [ju] at h1 ⊢
    rw [hW1,show (w.drew.setRow g c1.toArray).cell? ⟨vb,0+j,none⟩=w.drew.cell? ⟨vb,0+j,none⟩ from World.cell?_of_block (setRow_other w.drew g vb _ hne)]
    exact h1) (by simp only [List.size_toArray,haX,zQ,List.length_cons,List.length_nil];omega) (ks _)
 have HW:=q8 hW1
 have HR:=q8 hr
 have HR1:=q8 hr1
 have HX:=q8 (And.intro hx (And.intro hc1 (And.intro haX hl)))
 have hb1:¬ cap=i+1:=by omega
 have hb2:¬ cap=i:=by omega
 have hb3:i+1≤cap:=by omega
 have hwr:IntKind.i64.wrap ((i:Int)+1)=(i:Int)+1:=by rw [IntKind.wrap_i64];omega
 have hwb:(0:Int)≤(i:Int)+1:=by omega
 have hwc:(i:Int)+1≤(n:Int)+1:=by omega
 have hwd:(i:Int)≤(n:Int)+1:=by omega
 have hwt:((i:Int)+1).toNat=i+1:=by omega
 have mixed:Tryz.prog.follows .mixedOrders=true:=by kernel_rfl
 clear hW1 hr hr1 hget hx hc1 haX hxc hvb hl
 go_enter Tryz.func107,Tryz.ntmps107
 go_wp2_with (simp only [hov])
 go_region_law_o (refine step_copy_row rfl _ _ 40 40 rfl _ _ (by simp [Act.eval,Act.put]) (by simp [Act.eval,Act.put]) (hcp1 _ _ _) ?_)
 go_wp2_with (at_builtin;refine wpList_copy_row rfl _ _ 40 40 rfl _ _ rfl rfl (hcp2 _ _) ?_)
 go_ret
 obtain ⟨hx,hc1,haX,hl⟩:=HX.out
 have hput:(c1.take (i*2)++qS [x]++c1.drop (i*2+(qS [x]).length)).length=cap*2:=by
  simp only [List.length_append,List.length_take,List.length_drop,haX,zQ,List.length_cons,List.length_nil]
  omega
 have hrow:=HR1.out.put hput
 have hkp:=((Kept.refl (fun b=>b=g) w).drew.trans (HW.out ▸ HR.out.drew.keep c1.toArray) (fun _ _ h=>h)).trans (HR1.out.keep (c1.take (i*2)++qS [x]++c1.drop (i*2+(qS [x]).length)).toArray) (fun _ _ h=>h)
 have hfin:List.take ((n+1)*2) (c1.take (i*2)++qS [x]++c1.drop (i*2+(qS [x]).length))=qS (xs.take i++x::xs.drop i):=by
  have e1:c1.take (i*2)=qS (xs.take i):=by
   rw [hc1,List.append_assoc,List.take_append_of_le_length (by simp only [List.length_take,Array.length_toList,hcs];omega),List.take_take,kM,←hx,List.take_take]
   congr 1
   omega
  have l0:(cur.toList.take ((i+1)*2)).length=i*2+2:=by simp only [List.length_take,Array.length_toList,hcs];omega
  have e2:c1.drop (i*2+(qS [x]).length)=qS (xs.drop i)++cur.toList.drop ((i+1)*2+(qS (xs.drop i)).length):=by
   rw [hc1,List.append_assoc,zQ,show i*2+[x].length*2=(cur.toList.take ((i+1)*2)).length by rw [l0];rfl,List.drop_left]
  have l1:(qS (xs.take i)++qS [x]++qS (xs.drop i)).length=(n+1)*2:=by
   simp only [List.length_append,zQ,List.length_take,List.length_drop,hl,List.length_cons,List.length_nil]
   omega
  rw [e1,e2,←List.append_assoc,←l1,List.take_left,←kr,←kr,List.append_assoc]
  rfl
 simp only [List.append_assoc] at hrow hkp hfin ⊢
 exact ⟨rfl,⟨_,hrow,hfin⟩,hkp⟩
end Go.Proofs.YtgjjhadbjmcnpaaGreatDoor
namespace Go.Proofs.YtgjjhadbjmcnpaaGreatDoor
open Go.RowKit

theorem idxN_at {xs:List Nat} {x k:Nat} (hk:k<xs.length) (h:xs[k]=x) (hv:∀j (h:j<xs.length),j<k→xs[j]≠x):xs.idxOf x=k:=by
 have h1:xs.idxOf x<xs.length:=List.idxOf_lt_length_iff.2 (h ▸ List.getElem_mem hk)
 have h2:xs[xs.idxOf x]=x:=List.getElem_idxOf h1
 rcases Nat.lt_trichotomy (xs.idxOf x) k with g|g|g
 ·exact absurd h2 (hv _ h1 g)
 ·exact g
 have:=List.not_of_lt_findIdx (p:=(· == x)) (xs:=xs) (i:=k) g
 simp [h] at this
theorem VV (xs:List Nat) (b c x:Nat) (w:World) (hn:xs.length≤9223372036854775807) (hc:∀i (h:i<xs.length),w.cell? ⟨b,i,none⟩=some (.int .i64 (xs[i]:Int))) (hx:x∈xs) :
  Calls Tryz.prog 106 #[.slice (some ⟨b,0,none⟩) xs.length c,.int .i64 x] w fun e w'=>e = .returned (.int .i64 (xs.idxOf x))∧w'=w:=by
 have HX:=q8 hx
 have HC:=q8 hc
 clear hx hc
 go_enter Tryz.func106,Tryz.ntmps106
 go_wp2
 go_loop [8] (fun i=>∃k:Nat,k≤xs.length∧i = .int .i64 k∧∀j (h:j<xs.length),j<k→xs[j]≠x) (fun i=>xs.length - (intOf i).toNat)
 case atStart=>exact ⟨0,by omega,rfl,fun j _ hj=>by omega⟩
 case round=>
  obtain ⟨k,hk,rfl,hV⟩:=hrel
  have HV:=q8 hV
  clear hV
  by_cases hlt:k<xs.length
  rotate_left
  ·exfalso
   obtain ⟨j,hj,e⟩:=List.mem_iff_getElem.1 HX.out
   exact HV.out j hj (by omega) e
  have c0:=HC.out k hlt
  have Hlt:=q8 hlt
  by_cases he:xs[k]=x
  ·have HE:=q8 he
   have hq:((x:Int) == (xs[k]:Int))=true:=by simp [he]
   clear he
   go_wp2
   go_ret
   refine ⟨?_,rfl⟩
   rw [idxN_at Hlt.out HE.out HV.out]
   rfl
  have HE:=q8 he
  have hq:((x:Int) == (xs[k]:Int))=false:=by simp;omega
  clear he
  go_wp2
  refine ⟨⟨k+1,by omega,by go_num,fun j h1 hj=>?_⟩,by simp [intOf];omega⟩
  by_cases hj2:j<k
  ·exact HV.out j h1 hj2
  obtain rfl:j=k:=by omega
  exact HE.out
end Go.Proofs.YtgjjhadbjmcnpaaGreatDoor
