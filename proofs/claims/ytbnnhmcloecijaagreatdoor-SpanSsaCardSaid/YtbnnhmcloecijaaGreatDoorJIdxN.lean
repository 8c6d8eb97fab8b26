/-
  The contract of slices.Index at numbers that are there (a text of its own: it needs nothin
-/
import Derived.Lib.Overlaps
import Derived.Laws.Externs
import Derived.Test.YtbnnhmcloecijaaGreatDoorJCloN
set_option maxRecDepth 100000
set_option maxHeartbeats 16000000
namespace Go.Proofs.YtbnnhmcloecijaaGreatDoor
open Go.RowKit Go.Shelf

section
variable {P : Program}
theorem wpList_copy_row {ops:Array Oper} {rest:List Oper} {o:Oper} {a:Act} {w:World} {Q:Exit→Act→World→Prop} (hgd:o.guard=none) (d s:Operand) (t t':TypeId)
  (ho:o.op = .call { callee:=.builtin .copy,args:=#[d,s],argTypes:=#[t,t'] }) (v u:Value) (hd:a.eval d=v) (hs:a.eval s=u) {v':Value} {w':World}
  (hr:(Builtin.copy_ #[t,t'] o.type #[v,u]).run P w = .ok v' w') (h:wpList P ops Q rest (a.put o.dst v') w'):wpList P ops Q (o::rest) a w:=by
 refine wpList_plain hgd fun K hK=>?_
 unfold Oper.wp execOp
 simp only [ho,resolve,invoke,builtin,Sem.run_bind,Sem.run_pure,Result.andThen_ok,List.map_toArray,yS,yw,hd,hs,hr]
 exact hK _ _ h
theorem step_copy_row {ops:Array Oper} {o:Oper} {a:Act} {w:World} {K:Act→World→Prop} {Q:Exit→Act→World→Prop} {E:Prop}
  (hg:o.guard=none) (d x:Operand) (dT sT:TypeId) (hop:o.op=Op.call { callee:=Callee.builtin Builtin.copy,args:=#[d,x],argTypes:=#[dT,sT] })
  (v u:Value) (hd:a.eval d=v) (hx:a.eval x=u) {v':Value} {w':World} (hr:(Builtin.copy_ #[dT,sT] o.type #[v,u]).run P w = .ok v' w') (hK:K (a.put o.dst v') w') :
  if Region.wanted o (yielded ops a.tmps)=true then Oper.wp P o a w K Q else E:=by
 have hw:Region.wanted o (yielded ops a.tmps)=true:=by simp [Region.wanted,hg]
 rw [zZ hw]
 unfold Oper.wp
 simp [execOp,hop,resolve,invoke,builtin,hd,hx,hr,Result.andThen]
 exact hK
theorem wpList_append_row {ops:Array Oper} {rest:List Oper} {o:Oper} {a:Act} {w:World} {Q:Exit→Act→World→Prop} (hgd:o.guard=none) (s x:Operand) (t:TypeId)
  (ho:o.op=Op.call { callee:=Callee.builtin Builtin.append,args:=#[s,x],argTypes:=#[t,t] })
  (e:TypeId) (i:TypeInfo) (size:Nat) (ht:P.underlying t=some (.slice e)) (hi:P.info? e=some i) (hsz:i.size=size)
  (g n cap:Nat) (cur:Array Value) (hs:a.eval s = .slice (some ⟨g,0,none⟩) n cap) (hr:RowAt w e g cap size cur)
  (ad:Addr) (m c:Nat) (news:List Value) (hx:a.eval x = .slice (some ad) m c) (hn:news.length=m*size) (hc:∀j u,news[j]?=some u→w.cell? (ad.add j)=some u) (h1c:∀u∈news,u.oneCell'=true)
  (hroom:n+m≤cap)
  (h:wpList P ops Q rest (a.put o.dst (.slice (some ⟨g,0,none⟩) (n+m) cap)) (w.setRow g (cur.toList.take (n*size)++news++cur.toList.drop (n*size+news.length)).toArray)) :
  wpList P ops Q (o::rest) a w:=by
 refine wpList_plain hgd fun K hK=>?_
 subst hsz
 have hfit:n*i.size+news.length≤cur.size:=by rw [hn,hr.2.1,←Nat.add_mul];exact ye _ hroom
 have hrun:=run_append_room (P:=P) w t o.type e i ht hi g n cap cur hr.1 ad m c news hn hc h1c hroom hfit
 unfold Oper.wp execOp
 simp only [ho,resolve,invoke,builtin,Sem.run_bind,Sem.run_pure,Result.andThen_ok,List.map_toArray,yS,yw,hs,hx,hrun]
 exact hK _ _ h
end

theorem shape_row {w:World} {g:Nat} {cur:Array Value} {e:TypeId} (h:w.heap[g]?=some (.cells cur e (0,0))):w.shape? g=some (e,cur.size):=by
 simp [World.shape?,h]

theorem Xg (g cap n i vb:Nat) (x:Bool×Int) (xs:List (Bool×Int)) (cur:Array Value) (w:World) (hr:RowAt w 40 g cap 2 cur) (hx:cur.toList.take (n*2)=qW xs) (hl:xs.length=n) (hn:n+1≤cap) (hi:i≤n) (hvb:w.heap[vb]?=some (.cells #[.bool x.1,.int .i64 x.2] 40 (0,0))) (hne:vb≠g) :
  Calls Tryz.prog 143 #[.slice (some ⟨g,0,none⟩) n cap,.int .i64 i,.slice (some ⟨vb,0,none⟩) 1 1] w fun e w'=>
   e = .returned (.slice (some ⟨g,0,none⟩) (n+1) cap)∧(∃cur',RowAt w' 40 g cap 2 cur'∧cur'.toList.take ((n+1)*2)=qW (xs.take i++x::xs.drop i))∧Kept (fun b=>b=g) w w':=by
 obtain ⟨i1,k1,k2,k3,k4⟩:=info_parts Zy
 have hcm:cap≤9223372036854775807:=hr.2.2
 have hcs:=hr.2.1
 have hxc:∀j u,(qW [x])[j]?=some u→w.cell? ((⟨vb,0,none⟩:Addr).add j)=some u:=fun j u hu=>by
  rw [vC,cell_of_row w vb _ _ _ (0,0) hvb,yx]
  simpa [qW] using hu
 by_cases he:i=n
 ·subst he
  have HR:=q7 hr
  have HX:=q7 hxc
  have HK:=q7 (zh hx hl)
  clear hr hxc hx hl hvb
  go_enter Tryz.func143,Tryz.ntmps143
  go_wp2_with (at_builtin;refine wpList_append_row rfl _ _ 55 rfl 40 i1 2 Tryz.underlying55 k1 k3 g i cap cur rfl HR.out ⟨vb,0,none⟩ 1 1 (qW [x]) rfl rfl HX.out (QB _) hn ?_)
  go_ret
  obtain ⟨hx,hl⟩:=HK.out
  have hput:(cur.toList.take (i*2)++qW [x]++cur.toList.drop (i*2+(qW [x]).length)).length=cap*2:=by
   simp only [yN,yr,List.length_drop,Array.length_toList,hcs,xk,yi,List.length_nil]
   omega
  have hin:cur.toList.take (i*2)++qW [x]=qW (xs.take i++x::xs.drop i):=by
   rw [hx,List.take_of_length_le (by omega),List.drop_eq_nil_of_le (by omega),QA]
  have hlen:(cur.toList.take (i*2)++qW [x]).length=(i+1)*2:=by
   simp only [yN,yr,Array.length_toList,hcs,xk,yi,List.length_nil]
   omega
  have hrow:=HR.out.put hput
  have hkp:=HR.out.keep (cur.toList.take (i*2)++qW [x]++cur.toList.drop (i*2+(qW [x]).length)).toArray
  have hfin:List.take ((i+1)*2) (cur.toList.take (i*2)++qW [x]++cur.toList.drop (i*2+(qW [x]).length))=qW (xs.take i++x::xs.drop i):=by
   rw [←hlen,List.take_left,hin]
  simp only [yF] at hrow hkp hfin ⊢
  exact ⟨rfl,⟨_,hrow,hfin⟩,hkp⟩
 have hlt:i<n:=by omega
 have hov:∀lb cb,(callFunc 150 #[.slice (some ⟨vb,0,none⟩) 1 1,.slice (some ⟨g,(i+1)*2,none⟩) lb cb]).run Tryz.prog w = .ok (.value (.bool false)) w:=fun lb cb=>by
  have hrb:=shape_row hr.1
  have haX:cur.size≠0:=by omega
  rw [run_callFunc_extern Tryz.func150 (by kernel_rfl) (by kernel_rfl) (by kernel_rfl) (e:=Extern.SlicesOverlaps.overlaps #[55,55] #[4]) (by kernel_rfl),
   Lib.run_overlaps_apart w 55 4 40 Tryz.underlying55 2 Tryz.sizeOf40 ⟨vb,0,none⟩ ⟨g,(i+1)*2,none⟩ 1 1 lb cb hne 40 40 2 cur.size (shape_row hvb) hrb haX ((blk hvb).2 0) ((blk hvb).2 2)]
  rfl
 have hsz:(Tryz.prog.info? 40).map (·.size)=some 2:=by rw [k1];simp [k3]
 have hdl:(qW (xs.drop i)).length=(n - i)*2:=by rw [xk,List.length_drop,hl]
 have hget:∀t u,(qW (xs.drop i))[t]?=some u→cur[i*2+t]?=some u:=fun t u hu=>by
  rw [QV,List.getElem?_drop,←hx] at hu
  rw [←xJ]
  rw [List.getElem?_take] at hu
  split at hu
  ·exact hu
  cases hu
 obtain ⟨c1,hc1⟩:∃c1:List Value,c1=cur.toList.take ((i+1)*2)++qW (xs.drop i)++cur.toList.drop ((i+1)*2+(qW (xs.drop i)).length):=⟨_,rfl⟩
 have hbA:c1.length=cap*2:=by
  rw [hc1]
  simp only [yN,yr,List.length_drop,Array.length_toList,hcs,hdl]
  omega
 obtain ⟨W1,hW1⟩:∃W1,W1=w.drew.setRow g c1.toArray:=⟨_,rfl⟩
 have hr1:RowAt W1 40 g cap 2 c1.toArray:=by rw [hW1];exact hr.drew.put hbA
 have hcp1:∀ty dc sc,(Builtin.copy_ #[55,55] ty #[.slice (some ⟨g,(i+1)*2,none⟩) (n - i) dc,.slice (some ⟨g,i*2,none⟩) (n+1 - i) sc]).run Tryz.prog w.drew = .ok (goInt (Nat.min (n+1 - i) (n - i):Nat)) W1:=fun ty dc sc=>by
  have:=vZ (P:=Tryz.prog) w.drew 55 55 ty 40 g ((i+1)*2) (n - i) dc 2 ⟨g,i*2,none⟩ (n+1 - i) sc cur 40 (qW (xs.drop i)) Tryz.underlying55 hsz hr.drew.1
   (by rw [hdl,show Nat.min (n+1 - i) (n - i)=n - i by simp only [Nat.min_def];split<;>omega]) (fun j v hj=>by rw [vC];exact (hr.drew.cell _).trans (hget j v hj)) (by rw [hdl,hcs];omega) (QB _)
  rw [this,←hc1,←hW1]
 have hcp2:∀ty dc,(Builtin.copy_ #[55,55] ty #[.slice (some ⟨g,i*2,none⟩) (n+1 - i) dc,.slice (some ⟨vb,0,none⟩) 1 1]).run Tryz.prog W1 = .ok (goInt (Nat.min 1 (n+1 - i):Nat)) (W1.setRow g (c1.toArray.toList.take (i*2)++qW [x]++c1.toArray.toList.drop (i*2+(qW [x]).length)).toArray):=fun ty dc=>
  vZ (P:=Tryz.prog) W1 55 55 ty 40 g (i*2) (n+1 - i) dc 2 ⟨vb,0,none⟩ 1 1 c1.toArray 40 (qW [x]) Tryz.underlying55 hsz hr1.1
   (by rw [xk,show Nat.min 1 (n+1 - i)=1 by simp only [Nat.min_def];split<;>omega];rfl) (fun j v hj=>by
    have h1:=hxc j v hj
    rw [vC] at h1 ⊢
    rw [hW1,show (w.drew.setRow g c1.toArray).cell? ⟨vb,0+j,none⟩=w.drew.cell? ⟨vb,0+j,none⟩ from zN (setRow_other w.drew g vb _ hne)]
    exact h1) (by simp only [List.size_toArray,hbA,xk,yi,List.length_nil];omega) (QB _)
 have HW:=q7 hW1
 have HR:=q7 hr
 have HR1:=q7 hr1
 have HX:=q7 (zh hx (zh hc1 (zh hbA hl)))
 have hb1:¬ cap=i+1:=by omega
 have hb2:¬ cap=i:=by omega
 have hb3:i+1≤cap:=by omega
 have hwr:IntKind.i64.wrap ((i:Int)+1)=(i:Int)+1:=by rw [xI];omega
 have hwb:(0:Int)≤(i:Int)+1:=by omega
 have hwc:(i:Int)+1≤(n:Int)+1:=by omega
 have hwd:(i:Int)≤(n:Int)+1:=by omega
 have hwt:((i:Int)+1).toNat=i+1:=by omega
 have mixed:Tryz.prog.follows .mixedOrders=true:=by kernel_rfl
 clear hW1 hr hr1 hget hx hc1 hbA hxc hvb hl
 go_enter Tryz.func143,Tryz.ntmps143
 go_wp2_with (simp only [hov])
 go_region_law_o (refine step_copy_row rfl _ _ 55 55 rfl _ _ (by simp [Act.eval,Act.put]) (by simp [Act.eval,Act.put]) (hcp1 _ _ _) ?_)
 go_wp2_with (at_builtin;refine wpList_copy_row rfl _ _ 55 55 rfl _ _ rfl rfl (hcp2 _ _) ?_)
 go_ret
 obtain ⟨hx,hc1,hbA,hl⟩:=HX.out
 have hput:(c1.take (i*2)++qW [x]++c1.drop (i*2+(qW [x]).length)).length=cap*2:=by
  simp only [yN,yr,List.length_drop,hbA,xk,yi,List.length_nil]
  omega
 have hrow:=HR1.out.put hput
 have hkp:=((Kept.refl (fun b=>b=g) w).drew.trans (HW.out ▸ HR.out.drew.keep c1.toArray) (fun _ _ h=>h)).trans (HR1.out.keep (c1.take (i*2)++qW [x]++c1.drop (i*2+(qW [x]).length)).toArray) (fun _ _ h=>h)
 have hfin:List.take ((n+1)*2) (c1.take (i*2)++qW [x]++c1.drop (i*2+(qW [x]).length))=qW (xs.take i++x::xs.drop i):=by
  have e1:c1.take (i*2)=qW (xs.take i):=by
   rw [hc1,yF,List.take_append_of_le_length (by simp only [yr,Array.length_toList,hcs];omega),List.take_take,QU,←hx,List.take_take]
   congr 1
   omega
  have l0:(cur.toList.take ((i+1)*2)).length=i*2+2:=by simp only [yr,Array.length_toList,hcs];omega
  have e2:c1.drop (i*2+(qW [x]).length)=qW (xs.drop i)++cur.toList.drop ((i+1)*2+(qW (xs.drop i)).length):=by
   rw [hc1,yF,xk,show i*2+[x].length*2=(cur.toList.take ((i+1)*2)).length by rw [l0];rfl,List.drop_left]
  have l1:(qW (xs.take i)++qW [x]++qW (xs.drop i)).length=(n+1)*2:=by
   simp only [yN,xk,yr,List.length_drop,hl,yi,List.length_nil]
   omega
  rw [e1,e2,←yF,←l1,List.take_left,←QA,←QA,yF]
  rfl
 simp only [yF] at hrow hkp hfin ⊢
 exact ⟨rfl,⟨_,hrow,hfin⟩,hkp⟩
end Go.Proofs.YtbnnhmcloecijaaGreatDoor
namespace Go.Proofs.YtbnnhmcloecijaaGreatDoor
open Go.RowKit

theorem idxN_at {xs:List Nat} {x k:Nat} (hk:k<xs.length) (h:xs[k]=x) (hv:∀j (h:j<xs.length),j<k→xs[j]≠x):xs.idxOf x=k:=by
 have h1:xs.idxOf x<xs.length:=List.idxOf_lt_length_iff.2 (h ▸ zP hk)
 have h2:xs[xs.idxOf x]=x:=List.getElem_idxOf h1
 rcases Nat.lt_trichotomy (xs.idxOf x) k with g|g|g
 ·exact absurd h2 (hv _ h1 g)
 ·exact g
 have:=List.not_of_lt_findIdx (p:=(· == x)) (xs:=xs) (i:=k) g
 simp [h] at this
theorem mz (xs:List Nat) (b c x:Nat) (w:World) (hn:xs.length≤9223372036854775807) (hc:∀i (h:i<xs.length),w.cell? ⟨b,i,none⟩=some (.int .i64 (xs[i]:Int))) (hx:x∈xs) :
  Calls Tryz.prog 91 #[.slice (some ⟨b,0,none⟩) xs.length c,.int .i64 x] w fun e w'=>e = .returned (.int .i64 (xs.idxOf x))∧w'=w:=by
 have HX:=q7 hx
 have HC:=q7 hc
 clear hx hc
 go_enter Tryz.func91,Tryz.ntmps91
 go_wp2
 go_loop [8] (fun i=>∃k:Nat,k≤xs.length∧i = .int .i64 k∧∀j (h:j<xs.length),j<k→xs[j]≠x) (fun i=>xs.length - (intOf i).toNat)
 case atStart=>exact ⟨0,by omega,rfl,fun j _ hj=>by omega⟩
 case round=>
  obtain ⟨k,hk,rfl,hV⟩:=hrel
  have HV:=q7 hV
  clear hV
  by_cases hlt:k<xs.length
  rotate_left
  ·exfalso
   obtain ⟨j,hj,e⟩:=yp.1 HX.out
   exact HV.out j hj (by omega) e
  have c0:=HC.out k hlt
  have Hlt:=q7 hlt
  by_cases he:xs[k]=x
  ·have HE:=q7 he
   have hq:((x:Int) == (xs[k]:Int))=true:=by simp [he]
   clear he
   go_wp2
   go_ret
   refine ⟨?_,rfl⟩
   rw [idxN_at Hlt.out HE.out HV.out]
   rfl
  have HE:=q7 he
  have hq:((x:Int) == (xs[k]:Int))=false:=by simp;omega
  clear he
  go_wp2
  refine ⟨⟨k+1,by omega,by go_num,fun j h1 hj=>?_⟩,by simp [intOf];omega⟩
  by_cases hj2:j<k
  ·exact HV.out j h1 hj2
  obtain rfl:j=k:=by omega
  exact HE.out
end Go.Proofs.YtbnnhmcloecijaaGreatDoor
