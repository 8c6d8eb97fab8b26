/-
  Plain: depth first, blocks as they are left (graph.Post), and its state in a world.
-/
import Derived.Lib.Overlaps
import Derived.Laws.Externs
import Derived.Test.YtecdphhdmjmmnaaGreatDoorJVlsB
import Derived.Lib.AppendZerosOnto
import Derived.Lib.OwnBridge
import Derived.Sort.OwnSortedInts
import Derived.Shelf.Sort.Plain
import Derived.Shelf.Slices.CompactI
import Derived.Shelf.Slices.In.SortNone
import Derived.RangeFuncFrom
set_option maxRecDepth 100000
set_option maxHeartbeats 16000000
namespace Go.Proofs.YtecdphhdmjmmnaaGreatDoor
open Go.RowKit Go.Shelf

section
variable {P : Program}
theorem wpList_copy_row {ops:Array Oper} {rest:List Oper} {o:Oper} {a:Act} {w:World} {Q:Exit→Act→World→Prop} (hgd:o.guard=none) (d s:Operand) (t t':TypeId)
  (ho:o.op = .call { callee:=.builtin .copy,args:=#[d,s],argTypes:=#[t,t'] }) (v u:Value) (hd:a.eval d=v) (hs:a.eval s=u) {v':Value} {w':World}
  (hr:(Builtin.copy_ #[t,t'] o.type #[v,u]).run P w = .ok v' w') (h:wpList P ops Q rest (a.put o.dst v') w'):wpList P ops Q (o::rest) a w:=by
 refine wpList_plain hgd fun K hK=>?_
 unfold Oper.wp execOp
 simp only[ho,resolve,invoke,builtin,Sem.run_bind,Sem.run_pure,Result.andThen_ok,List.map_toArray,List.map_cons,List.map_nil,hd,hs,hr]
 exact hK _ _ h
theorem step_copy_row {ops:Array Oper} {o:Oper} {a:Act} {w:World} {K:Act→World→Prop} {Q:Exit→Act→World→Prop} {E:Prop}
  (hg:o.guard=none) (d x:Operand) (dT sT:TypeId) (hop:o.op=Op.call { callee:=Callee.builtin Builtin.copy,args:=#[d,x],argTypes:=#[dT,sT] })
  (v u:Value) (hd:a.eval d=v) (hx:a.eval x=u) {v':Value} {w':World} (hr:(Builtin.copy_ #[dT,sT] o.type #[v,u]).run P w = .ok v' w') (hK:K (a.put o.dst v') w') :
  if Region.wanted o (yielded ops a.tmps)=true then Oper.wp P o a w K Q else E:=by
 have hw:Region.wanted o (yielded ops a.tmps)=true:=by simp[Region.wanted,hg]
 rw[if_pos hw]
 unfold Oper.wp
 simp[execOp,hop,resolve,invoke,builtin,hd,hx,hr,Result.andThen]
 exact hK
theorem wpList_append_row {ops:Array Oper} {rest:List Oper} {o:Oper} {a:Act} {w:World} {Q:Exit→Act→World→Prop} (hgd:o.guard=none) (s x:Operand) (t:TypeId)
  (ho:o.op=Op.call { callee:=Callee.builtin Builtin.append,args:=#[s,x],argTypes:=#[t,t] })
  (e:TypeId) (i:TypeInfo) (size:Nat) (ht:P.underlying t=some (.slice e)) (hi:P.info? e=some i) (hsz:i.size=size)
  (g n cap:Nat) (cur:Array Value) (hs:a.eval s = .slice (some ⟨g,0,none⟩) n cap) (hr:RowAt w e g cap size cur)
  (ad:Addr) (m c:Nat) (news:List Value) (hx:a.eval x = .slice (some ad) m c) (hn:news.length=m*size) (hc:∀j u,news[j]?=some u→w.cell? (ad.add j)=some u) (h1c:∀u∈news,u.oneCell'=true)
  (hroom:n+m≤cap)
  (h:wpList P ops Q rest (a.put o.dst (.slice (some ⟨g,0,none⟩) (n+m) cap)) (w.setRow g (cur.toList.take (n*size)++news++cur.toList.drop (n*size+news.length)).toArray)) :
  wpList P ops Q (o::rest) a w:=by
 refine wpList_plain hgd fun K hK=>?_
 subst hsz
 have hfit:n*i.size+news.length≤cur.size:=by rw[hn,hr.2.1,←Nat.add_mul];exact Nat.mul_le_mul_right _ hroom
 have hrun:=run_append_room (P:=P) w t o.type e i ht hi g n cap cur hr.1 ad m c news hn hc h1c hroom hfit
 unfold Oper.wp execOp
 simp only[ho,resolve,invoke,builtin,Sem.run_bind,Sem.run_pure,Result.andThen_ok,List.map_toArray,List.map_cons,List.map_nil,hs,hx,hrun]
 exact hK _ _ h
end

theorem shape_row {w:World} {g:Nat} {cur:Array Value} {e:TypeId} (h:w.heap[g]?=some (.cells cur e (0,0))):w.shape? g=some (e,cur.size):=by
 simp[World.shape?,h]

theorem Qz (g cap n i vb:Nat) (x:Bool×Int) (xs:List (Bool×Int)) (cur:Array Value) (w:World) (hr:RowAt w 43 g cap 2 cur) (hx:cur.toList.take (n*2)=qQ xs) (hl:xs.length=n) (hn:n+1≤cap) (hi:i≤n) (hvb:w.heap[vb]?=some (.cells #[.bool x.1,.int .i64 x.2] 43 (0,0))) (hne:vb≠g) :
  Calls Tryz.prog 125 #[.slice (some ⟨g,0,none⟩) n cap,.int .i64 i,.slice (some ⟨vb,0,none⟩) 1 1] w fun e w'=>
   e = .returned (.slice (some ⟨g,0,none⟩) (n+1) cap)∧(∃cur',RowAt w' 43 g cap 2 cur'∧cur'.toList.take ((n+1)*2)=qQ (xs.take i++x::xs.drop i))∧Kept (fun b=>b=g) w w':=by
 obtain⟨i1,k1,k2,k3,k4⟩:=info_parts kl
 have hcm:cap≤9223372036854775807:=hr.2.2
 have hcs:=hr.2.1
 have hxc:∀j u,(qQ [x])[j]?=some u→w.cell? ((⟨vb,0,none⟩:Addr).add j)=some u:=fun j u hu=>by
  rw[zw,cell_of_row w vb _ _ _ (0,0) hvb,Nat.zero_add]
  simpa[qQ]using hu
 by_cases he:i=n
 ·subst he
  have HR:=q7 hr
  have HX:=q7 hxc
  have HK:=q7 (And.intro hx hl)
  clear hr hxc hx hl hvb
  go_enter Tryz.func125,Tryz.ntmps125
  go_wp2_with (at_builtin;refine wpList_append_row rfl _ _ 51 rfl 43 i1 2 Tryz.underlying51 k1 k3 g i cap cur rfl HR.out ⟨vb,0,none⟩ 1 1 (qQ [x]) rfl rfl HX.out (kp _) hn ?_)
  go_ret
  obtain⟨hx,hl⟩:=HK.out
  have hput:(cur.toList.take (i*2)++qQ [x]++cur.toList.drop (i*2+(qQ [x]).length)).length=cap*2:=by
   simp only[List.length_append,List.length_take,List.length_drop,Array.length_toList,hcs,zM,List.length_cons,List.length_nil]
   omega
  have hin:cur.toList.take (i*2)++qQ [x]=qQ (xs.take i++x::xs.drop i):=by
   rw[hx,List.take_of_length_le (by omega),List.drop_eq_nil_of_le (by omega),ko]
  have hlen:(cur.toList.take (i*2)++qQ [x]).length=(i+1)*2:=by
   simp only[List.length_append,List.length_take,Array.length_toList,hcs,zM,List.length_cons,List.length_nil]
   omega
  have hrow:=HR.out.put hput
  have hkp:=HR.out.keep (cur.toList.take (i*2)++qQ [x]++cur.toList.drop (i*2+(qQ [x]).length)).toArray
  have hfin:List.take ((i+1)*2) (cur.toList.take (i*2)++qQ [x]++cur.toList.drop (i*2+(qQ [x]).length))=qQ (xs.take i++x::xs.drop i):=by
   rw[←hlen,List.take_left,hin]
  simp only[List.append_assoc]at hrow hkp hfin ⊢
  exact⟨rfl,⟨_,hrow,hfin⟩,hkp⟩
 have hlt:i<n:=by omega
 have hov:∀lb cb,(callFunc 150 #[.slice (some ⟨vb,0,none⟩) 1 1,.slice (some ⟨g,(i+1)*2,none⟩) lb cb]).run Tryz.prog w = .ok (.value (.bool false)) w:=fun lb cb=>by
  have hrb:=shape_row hr.1
  have haF:cur.size≠0:=by omega
  rw[run_callFunc_extern Tryz.func150 (by kernel_rfl) (by kernel_rfl) (by kernel_rfl) (e:=Extern.SlicesOverlaps.overlaps #[51,51] #[4]) (by kernel_rfl),
   Lib.run_overlaps_apart w 51 4 43 Tryz.underlying51 2 Tryz.sizeOf43 ⟨vb,0,none⟩ ⟨g,(i+1)*2,none⟩ 1 1 lb cb hne 43 43 2 cur.size (shape_row hvb) hrb haF ((blk hvb).2 0) ((blk hvb).2 2)]
  rfl
 have hsz:(Tryz.prog.info? 43).map (·.size)=some 2:=by rw[k1];simp[k3]
 have hdl:(qQ (xs.drop i)).length=(n - i)*2:=by rw[zM,List.length_drop,hl]
 have hget:∀t u,(qQ (xs.drop i))[t]?=some u→cur[i*2+t]?=some u:=fun t u hu=>by
  rw[kS,List.getElem?_drop,←hx]at hu
  rw[←Array.getElem?_toList]
  rw[List.getElem?_take]at hu
  split at hu
  ·exact hu
  cases hu
 obtain⟨c1,hc1⟩:∃c1:List Value,c1=cur.toList.take ((i+1)*2)++qQ (xs.drop i)++cur.toList.drop ((i+1)*2+(qQ (xs.drop i)).length):=⟨_,rfl⟩
 have haa:c1.length=cap*2:=by
  rw[hc1]
  simp only[List.length_append,List.length_take,List.length_drop,Array.length_toList,hcs,hdl]
  omega
 obtain⟨W1,hW1⟩:∃W1,W1=w.drew.setRow g c1.toArray:=⟨_,rfl⟩
 have hr1:RowAt W1 43 g cap 2 c1.toArray:=by rw[hW1];exact hr.drew.put haa
 have hcp1:∀ty dc sc,(Builtin.copy_ #[51,51] ty #[.slice (some ⟨g,(i+1)*2,none⟩) (n - i) dc,.slice (some ⟨g,i*2,none⟩) (n+1 - i) sc]).run Tryz.prog w.drew = .ok (goInt (Nat.min (n+1 - i) (n - i):Nat)) W1:=fun ty dc sc=>by
  have:=zI (P:=Tryz.prog) w.drew 51 51 ty 43 g ((i+1)*2) (n - i) dc 2 ⟨g,i*2,none⟩ (n+1 - i) sc cur 43 (qQ (xs.drop i)) Tryz.underlying51 hsz hr.drew.1
   (by rw[hdl,show Nat.min (n+1 - i) (n - i)=n - i by simp only[Nat.min_def];split<;>omega]) (fun j v hj=>by rw[zw];exact(hr.drew.cell _).trans (hget j v hj)) (by rw[hdl,hcs];omega) (kp _)
  rw[this,←hc1,←hW1]
 have hcp2:∀ty dc,(Builtin.copy_ #[51,51] ty #[.slice (some ⟨g,i*2,none⟩) (n+1 - i) dc,.slice (some ⟨vb,0,none⟩) 1 1]).run Tryz.prog W1 = .ok (goInt (Nat.min 1 (n+1 - i):Nat)) (W1.setRow g (c1.toArray.toList.take (i*2)++qQ [x]++c1.toArray.toList.drop (i*2+(qQ [x]).length)).toArray):=fun ty dc=>
  zI (P:=Tryz.prog) W1 51 51 ty 43 g (i*2) (n+1 - i) dc 2 ⟨vb,0,none⟩ 1 1 c1.toArray 43 (qQ [x]) Tryz.underlying51 hsz hr1.1
   (by rw[zM,show Nat.min 1 (n+1 - i)=1 by simp only[Nat.min_def];split<;>omega];rfl) (fun j v hj=>by
    have h1:=hxc j v hj
    rw[zw]at h1 ⊢
    rw[hW1,show(w.drew.setRow g c1.toArray).cell? ⟨vb,0+j,none⟩=w.drew.cell? ⟨vb,0+j,none⟩from World.cell?_of_block (setRow_other w.drew g vb _ hne)]
    exact h1) (by simp only[List.size_toArray,haa,zM,List.length_cons,List.length_nil];omega) (kp _)
 have HW:=q7 hW1
 have HR:=q7 hr
 have HR1:=q7 hr1
 have HX:=q7 (And.intro hx (And.intro hc1 (And.intro haa hl)))
 have hb1:¬ cap=i+1:=by omega
 have hb2:¬ cap=i:=by omega
 have hb3:i+1≤cap:=by omega
 have hwr:IntKind.i64.wrap ((i:Int)+1)=(i:Int)+1:=by rw[IntKind.wrap_i64];omega
 have hwb:(0:Int)≤(i:Int)+1:=by omega
 have hwc:(i:Int)+1≤(n:Int)+1:=by omega
 have hwd:(i:Int)≤(n:Int)+1:=by omega
 have hwt:((i:Int)+1).toNat=i+1:=by omega
 have mixed:Tryz.prog.follows .mixedOrders=true:=by kernel_rfl
 clear hW1 hr hr1 hget hx hc1 haa hxc hvb hl
 go_enter Tryz.func125,Tryz.ntmps125
 go_wp2_with (simp only[hov])
 go_region_law_o (refine step_copy_row rfl _ _ 51 51 rfl _ _ (by simp[Act.eval,Act.put]) (by simp[Act.eval,Act.put]) (hcp1 _ _ _) ?_)
 go_wp2_with (at_builtin;refine wpList_copy_row rfl _ _ 51 51 rfl _ _ rfl rfl (hcp2 _ _) ?_)
 go_ret
 obtain⟨hx,hc1,haa,hl⟩:=HX.out
 have hput:(c1.take (i*2)++qQ [x]++c1.drop (i*2+(qQ [x]).length)).length=cap*2:=by
  simp only[List.length_append,List.length_take,List.length_drop,haa,zM,List.length_cons,List.length_nil]
  omega
 have hrow:=HR1.out.put hput
 have hkp:=((Kept.refl (fun b=>b=g) w).drew.trans (HW.out ▸ HR.out.drew.keep c1.toArray) (fun _ _ h=>h)).trans (HR1.out.keep (c1.take (i*2)++qQ [x]++c1.drop (i*2+(qQ [x]).length)).toArray) (fun _ _ h=>h)
 have hfin:List.take ((n+1)*2) (c1.take (i*2)++qQ [x]++c1.drop (i*2+(qQ [x]).length))=qQ (xs.take i++x::xs.drop i):=by
  have e1:c1.take (i*2)=qQ (xs.take i):=by
   rw[hc1,List.append_assoc,List.take_append_of_le_length (by simp only[List.length_take,Array.length_toList,hcs];omega),List.take_take,kR,←hx,List.take_take]
   congr 1
   omega
  have l0:(cur.toList.take ((i+1)*2)).length=i*2+2:=by simp only[List.length_take,Array.length_toList,hcs];omega
  have e2:c1.drop (i*2+(qQ [x]).length)=qQ (xs.drop i)++cur.toList.drop ((i+1)*2+(qQ (xs.drop i)).length):=by
   rw[hc1,List.append_assoc,zM,show i*2+[x].length*2=(cur.toList.take ((i+1)*2)).length by rw[l0];rfl,List.drop_left]
  have l1:(qQ (xs.take i)++qQ [x]++qQ (xs.drop i)).length=(n+1)*2:=by
   simp only[List.length_append,zM,List.length_take,List.length_drop,hl,List.length_cons,List.length_nil]
   omega
  rw[e1,e2,←List.append_assoc,←l1,List.take_left,←ko,←ko,List.append_assoc]
  rfl
 simp only[List.append_assoc]at hrow hkp hfin ⊢
 exact⟨rfl,⟨_,hrow,hfin⟩,hkp⟩

theorem insB_room (g cap n i vb:Nat) (vc xs:List Value) (cur:Array Value) (w:World) (hr:RowAt w 48 g cap 6 cur) (hx:cur.toList.take (n*6)=xs) (hl:xs.length=n*6) (hn:n+1≤cap) (hi:i<n) (hvl:vc.length=6) (h1v:∀u∈vc,u.oneCell'=true) (h1x:∀u∈xs,u.oneCell'=true) (hvb:w.heap[vb]?=some (.cells vc.toArray 48 (0,0))) (hne:vb≠g) :
  Calls Tryz.prog 52 #[.slice (some ⟨g,0,none⟩) n cap,.int .i64 i,.slice (some ⟨vb,0,none⟩) 1 1] w fun e w'=>
   e = .returned (.slice (some ⟨g,0,none⟩) (n+1) cap)∧(∃cur',RowAt w' 48 g cap 6 cur'∧cur'.toList.take ((n+1)*6)=xs.take (i*6)++vc++xs.drop (i*6))∧Kept (fun b=>b=g) w w':=by
 obtain⟨i1,k1,k2,k3,k4⟩:=info_parts jC
 have hcm:cap≤9223372036854775807:=hr.2.2
 have hcs:=hr.2.1
 have hxc:∀j u,vc[j]?=some u→w.cell? ((⟨vb,0,none⟩:Addr).add j)=some u:=fun j u hu=>by
  rw[zw,cell_of_row w vb _ _ _ (0,0) hvb,Nat.zero_add]
  simpa using hu
 have he:i≠n:=by omega
 have hlt:=hi
 have hcells:∀j,j<6→(w.cell? ⟨vb,j,none⟩).isSome=true:=fun j hj=>by
  rw[cell_of_row w vb _ _ _ (0,0) hvb]
  simp[hvl,hj]
 have hov:∀lb cb,(callFunc 84 #[.slice (some ⟨vb,0,none⟩) 1 1,.slice (some ⟨g,(i+1)*6,none⟩) lb cb]).run Tryz.prog w = .ok (.value (.bool false)) w:=fun lb cb=>by
  have hrb:=shape_row hr.1
  have haF:cur.size≠0:=by omega
  rw[run_callFunc_extern Tryz.func84 (by kernel_rfl) (by kernel_rfl) (by kernel_rfl) (e:=Extern.SlicesOverlaps.overlaps #[35,35] #[4]) (by kernel_rfl),
   Lib.run_overlaps_apart w 35 4 48 Tryz.underlying35 6 Tryz.sizeOf48 ⟨vb,0,none⟩ ⟨g,(i+1)*6,none⟩ 1 1 lb cb hne 48 48 vc.toArray.size cur.size (shape_row hvb) hrb haF ((blk hvb).2 0) ((blk hvb).2 _)]
  rfl
 have hsz:(Tryz.prog.info? 48).map (·.size)=some 6:=by rw[k1];simp[k3]
 have hdl:(xs.drop (i*6)).length=(n - i)*6:=by rw[List.length_drop,hl,Nat.sub_mul]
 have hget:∀t u,(xs.drop (i*6))[t]?=some u→cur[i*6+t]?=some u:=fun t u hu=>by
  rw[List.getElem?_drop,←hx]at hu
  rw[←Array.getElem?_toList]
  rw[List.getElem?_take]at hu
  split at hu
  ·exact hu
  cases hu
 obtain⟨c1,hc1⟩:∃c1:List Value,c1=cur.toList.take ((i+1)*6)++xs.drop (i*6)++cur.toList.drop ((i+1)*6+(xs.drop (i*6)).length):=⟨_,rfl⟩
 have haa:c1.length=cap*6:=by
  rw[hc1]
  simp only[List.length_append,List.length_take,List.length_drop,Array.length_toList,hcs,hdl]
  omega
 obtain⟨W1,hW1⟩:∃W1,W1=w.drew.setRow g c1.toArray:=⟨_,rfl⟩
 have hr1:RowAt W1 48 g cap 6 c1.toArray:=by rw[hW1];exact hr.drew.put haa
 have hcp1:∀ty dc sc,(Builtin.copy_ #[35,35] ty #[.slice (some ⟨g,(i+1)*6,none⟩) (n - i) dc,.slice (some ⟨g,i*6,none⟩) (n+1 - i) sc]).run Tryz.prog w.drew = .ok (goInt (Nat.min (n+1 - i) (n - i):Nat)) W1:=fun ty dc sc=>by
  have:=zI (P:=Tryz.prog) w.drew 35 35 ty 48 g ((i+1)*6) (n - i) dc 6 ⟨g,i*6,none⟩ (n+1 - i) sc cur 48 (xs.drop (i*6)) Tryz.underlying35 hsz hr.drew.1
   (by rw[hdl,show Nat.min (n+1 - i) (n - i)=n - i by simp only[Nat.min_def];split<;>omega]) (fun j v hj=>by rw[zw];exact(hr.drew.cell _).trans (hget j v hj)) (by rw[hdl,hcs];omega) (fun u hu=>h1x u (List.mem_of_mem_drop hu))
  rw[this,←hc1,←hW1]
 have hcp2:∀ty dc,(Builtin.copy_ #[35,35] ty #[.slice (some ⟨g,i*6,none⟩) (n+1 - i) dc,.slice (some ⟨vb,0,none⟩) 1 1]).run Tryz.prog W1 = .ok (goInt (Nat.min 1 (n+1 - i):Nat)) (W1.setRow g (c1.toArray.toList.take (i*6)++vc++c1.toArray.toList.drop (i*6+vc.length)).toArray):=fun ty dc=>
  zI (P:=Tryz.prog) W1 35 35 ty 48 g (i*6) (n+1 - i) dc 6 ⟨vb,0,none⟩ 1 1 c1.toArray 48 vc Tryz.underlying35 hsz hr1.1
   (by rw[hvl,show Nat.min 1 (n+1 - i)=1 by simp only[Nat.min_def];split<;>omega]) (fun j v hj=>by
    have h1:=hxc j v hj
    rw[zw]at h1 ⊢
    rw[hW1,show(w.drew.setRow g c1.toArray).cell? ⟨vb,0+j,none⟩=w.drew.cell? ⟨vb,0+j,none⟩from World.cell?_of_block (setRow_other w.drew g vb _ hne)]
    exact h1) (by simp only[List.size_toArray,haa,hvl];omega) h1v
 have HW:=q7 hW1
 have HR:=q7 hr
 have HR1:=q7 hr1
 have HX:=q7 (And.intro hx (And.intro hc1 (And.intro haa (And.intro hl hvl))))
 have hb1:¬ cap=i+1:=by omega
 have hb2:¬ cap=i:=by omega
 have hb3:i+1≤cap:=by omega
 have hwr:IntKind.i64.wrap ((i:Int)+1)=(i:Int)+1:=by rw[IntKind.wrap_i64];omega
 have hwb:(0:Int)≤(i:Int)+1:=by omega
 have hwc:(i:Int)+1≤(n:Int)+1:=by omega
 have hwd:(i:Int)≤(n:Int)+1:=by omega
 have hwt:((i:Int)+1).toNat=i+1:=by omega
 have mixed:Tryz.prog.follows .mixedOrders=true:=by kernel_rfl
 clear hW1 hr hr1 hget hx hc1 haa hxc hvb hl hcells hvl
 go_enter Tryz.func52,Tryz.ntmps52
 go_wp2_with (simp only[hov])
 go_region_law_o (refine step_copy_row rfl _ _ 35 35 rfl _ _ (by simp[Act.eval,Act.put]) (by simp[Act.eval,Act.put]) (hcp1 _ _ _) ?_)
 go_wp2_with (at_builtin;refine wpList_copy_row rfl _ _ 35 35 rfl _ _ rfl rfl (hcp2 _ _) ?_)
 go_ret
 obtain⟨hx,hc1,haa,hl,hvl⟩:=HX.out
 have hput:(c1.take (i*6)++vc++c1.drop (i*6+vc.length)).length=cap*6:=by
  simp only[List.length_append,List.length_take,List.length_drop,haa,hvl]
  omega
 have hrow:=HR1.out.put hput
 have hkp:=((Kept.refl (fun b=>b=g) w).drew.trans (HW.out ▸ HR.out.drew.keep c1.toArray) (fun _ _ h=>h)).trans (HR1.out.keep (c1.take (i*6)++vc++c1.drop (i*6+vc.length)).toArray) (fun _ _ h=>h)
 have hfin:List.take ((n+1)*6) (c1.take (i*6)++vc++c1.drop (i*6+vc.length))=xs.take (i*6)++vc++xs.drop (i*6):=by
  have e1:c1.take (i*6)=xs.take (i*6):=by
   rw[hc1,List.append_assoc,List.take_append_of_le_length (by simp only[List.length_take,Array.length_toList,hcs];omega),List.take_take,←hx,List.take_take]
   congr 1
   omega
  have l0:(cur.toList.take ((i+1)*6)).length=i*6+6:=by simp only[List.length_take,Array.length_toList,hcs];omega
  have e2:c1.drop (i*6+vc.length)=xs.drop (i*6)++cur.toList.drop ((i+1)*6+(xs.drop (i*6)).length):=by
   rw[hc1,List.append_assoc,show i*6+vc.length=(cur.toList.take ((i+1)*6)).length by rw[l0,hvl],List.drop_left]
  have l1:(xs.take (i*6)++vc++xs.drop (i*6)).length=(n+1)*6:=by
   simp only[List.length_append,List.length_take,List.length_drop,hl,hvl]
   omega
  rw[e1,e2,←List.append_assoc,←l1,List.take_left]
 simp only[List.append_assoc]at hrow hkp hfin ⊢
 exact⟨rfl,⟨_,hrow,hfin⟩,hkp⟩

theorem insB_grow (g cap n i vb:Nat) (vc xs:List Value) (cur:Array Value) (w:World) (hr:RowAt w 48 g cap 6 cur) (hx:cur.toList.take (n*6)=xs) (hl:xs.length=n*6) (hn:n≤cap) (hroom:cap<n+1) (hbig:n≤1000000) (hi:i<n) (hvl:vc.length=6) (h1v:∀u∈vc,u.oneCell'=true) (h1x:∀u∈xs,u.oneCell'=true) (hvb:w.heap[vb]?=some (.cells vc.toArray 48 (0,0))) (_hne:vb≠g) :
  Calls Tryz.prog 52 #[.slice (some ⟨g,0,none⟩) n cap,.int .i64 i,.slice (some ⟨vb,0,none⟩) 1 1] w fun e w'=>
   ∃G,e = .returned (.slice (some ⟨w.heap.size,0,none⟩) (n+1) G)∧n+1≤G∧(∃cur',RowAt w' 48 w.heap.size G 6 cur'∧cur'.toList.take ((n+1)*6)=xs.take (i*6)++vc++xs.drop (i*6))∧Kept (fun b=>b=g) w w':=by
 obtain⟨i0,hi0,hz0,hzs,hzb⟩:=info_parts jC
 have hcm:cap≤9223372036854775807:=hr.2.2
 have hcs:=hr.2.1
 have hgw:g<w.heap.size:=(Array.getElem?_eq_some_iff.1 hr.1).1
 have hvw:vb<w.heap.size:=(Array.getElem?_eq_some_iff.1 hvb).1
 have hsz:(Tryz.prog.info? 48).map (·.size)=some 6:=by rw[hi0];simp[hzs]
 have hz2:¬ ((i:Int)=(n:Int)):=by omega
 have hz3:(cap:Int)<(n:Int)+1:=by omega
 have hkk:(n:Int)+1 - (i:Int)=((n+1 - i:Nat):Int):=by omega
 have hik:i+(n+1 - i)=n+1:=by omega
 have hold:(Builtin.firstCells i0.size i (.slice (some ⟨g,0,none⟩) i cap)).run Tryz.prog w.drew = .ok (xs.take (i*6)).toArray w.drew:=by
  rw[hzs]
  exact run_firstCells_some w.drew 6 i ⟨g,0,none⟩ i cap (xs.take (i*6)) (by rw[List.length_take];omega) (fun j v hj=>by
   rw[zw,Nat.zero_add]
   rw[List.getElem?_take]at hj
   split at hj
   ·refine(hr.drew.cell j).trans ?_
    rw[←hx,List.getElem?_take]at hj
    split at hj
    ·rw[←Array.getElem?_toList];exact hj
    cases hj
   cases hj)
 obtain⟨Z,hZ⟩:∃Z:Value,Z = .agg #[.slice none 0 0,.slice none 0 0,.int .i64 0,.bool false,.int .i64 0,.slice none 0 0]:=⟨_,rfl⟩
 rw[←hZ]at hz0
 have hZs:Z.cells.size=6:=by rw[hZ];rfl
 have hrz:∀ty,(Builtin.append_ #[35,3] ty #[.slice (some ⟨g,0,none⟩) i cap,.int .i64 ((n:Int)+1 - (i:Int))]).run Tryz.prog w =
   .ok (.slice (some ⟨w.heap.size,0,none⟩) (n+1) (grownCap w (n+1) cap 48)) (w.drew.alloc (.cells ((xs.take (i*6)).toArray++Builtin.zeroCells Z.cells (n+1 - i)++Builtin.zeroCells Z.cells (grownCap w (n+1) cap 48 - (n+1))) 48)):=fun ty=>by
  have h:=Lib.run_append_grow_zeros w 35 3 ty 48 i0 _ .i64 .i64 Tryz.underlying35 Tryz.underlying3 hi0 hz0 (some ⟨g,0,none⟩) i cap (xs.take (i*6)) hold (n+1 - i) (by omega) (by omega) (by omega) (by omega) (by rw[hzb];omega) (by rw[hzb,hik];exact growslice_fits hroom (by omega))
  rw[hik]at h
  rw[hkk]
  exact h
 obtain⟨G,hG⟩:∃G,G=grownCap w (n+1) cap 48:=⟨_,rfl⟩
 have hGn:n+1≤G:=by rw[hG];exact grownCap_ge w _ _ _
 have hG63:G≤maxLen:=by rw[hG];exact grownCap_le_maxLen w (n+1) cap 48 (by unfold maxLen;omega)
 obtain⟨ROW,hROW⟩:∃ROW:Array Value,ROW=(xs.take (i*6)).toArray++Builtin.zeroCells Z.cells (n+1 - i)++Builtin.zeroCells Z.cells (G - (n+1)):=⟨_,rfl⟩
 rw[←hG]at hrz
 rw[←hROW]at hrz
 have hRs:ROW.size=G*6:=by
  rw[hROW]
  simp only[Array.size_append,List.size_toArray,size_zeroCells,hZs,List.length_take,hl]
  omega
 have hRt:ROW.toList.take (i*6)=xs.take (i*6):=by
  rw[hROW]
  simp only[Array.toList_append,List.append_assoc]
  rw[List.take_append_of_le_length (by rw[List.length_take,hl,Nat.min_eq_left (Nat.mul_le_mul_right 6 (by omega))];exact Nat.le_refl _),List.take_take,Nat.min_self]
 obtain⟨N,hN⟩:∃N,N=w.heap.size:=⟨_,rfl⟩
 rw[←hN]at hrz
 obtain⟨W1,hW1⟩:∃W1,W1=w.drew.alloc (.cells ROW 48):=⟨_,rfl⟩
 rw[←hW1]at hrz
 have hr1:RowAt W1 48 N G 6 ROW:=by rw[hW1,hN];exact⟨by show(w.heap.push _)[w.heap.size]?=_;rw[Array.getElem?_push,if_pos rfl],hRs,hG63⟩
 have ho1:∀b,b<w.heap.size→W1.heap[b]?=w.heap[b]?:=fun b hb=>by
  rw[hW1]
  show(w.heap.push _)[b]?=_
  rw[Array.getElem?_push,if_neg (by omega)]
 obtain⟨c1,hc1⟩:∃c1:List Value,c1=ROW.toList.take (i*6)++vc++ROW.toList.drop (i*6+vc.length):=⟨_,rfl⟩
 have haa:c1.length=G*6:=by
  rw[hc1]
  simp only[List.length_append,List.length_take,List.length_drop,Array.length_toList,hRs,hvl]
  omega
 obtain⟨W2,hW2⟩:∃W2,W2=W1.setRow N c1.toArray:=⟨_,rfl⟩
 have hr2:RowAt W2 48 N G 6 c1.toArray:=by rw[hW2];exact hr1.put haa
 have ho2:∀b,b<w.heap.size→W2.heap[b]?=w.heap[b]?:=fun b hb=>by rw[hW2,setRow_other _ _ _ _ (by omega)];exact ho1 b hb
 have hcpA:∀ty dc,(Builtin.copy_ #[35,35] ty #[.slice (some ⟨N,i*6,none⟩) (n+1 - i) dc,.slice (some ⟨vb,0,none⟩) 1 1]).run Tryz.prog W1 = .ok (goInt (Nat.min 1 (n+1 - i):Nat)) W2:=fun ty dc=>by
  have:=zI (P:=Tryz.prog) W1 35 35 ty 48 N (i*6) (n+1 - i) dc 6 ⟨vb,0,none⟩ 1 1 ROW 48 vc Tryz.underlying35 hsz hr1.1
   (by rw[hvl,show Nat.min 1 (n+1 - i)=1 by simp only[Nat.min_def];split<;>omega]) (fun j v hj=>by
    rw[zw,Nat.zero_add,show W1.cell? ⟨vb,j,none⟩=w.cell? ⟨vb,j,none⟩from World.cell?_of_block (ho1 vb hvw),cell_of_row w vb _ _ _ (0,0) hvb]
    simpa using hj) (by rw[hRs,hvl];omega) h1v
  rw[this,←hc1,←hW2]
 have hdl:(xs.drop (i*6)).length=(n - i)*6:=by rw[List.length_drop,hl,Nat.sub_mul]
 obtain⟨c2,hc2⟩:∃c2:List Value,c2=c1.toArray.toList.take ((i+1)*6)++xs.drop (i*6)++c1.toArray.toList.drop ((i+1)*6+(xs.drop (i*6)).length):=⟨_,rfl⟩
 have hgG:c2.length=G*6:=by
  rw[hc2]
  simp only[List.length_append,List.length_take,List.length_drop,haa,hdl]
  omega
 have hcpB:∀ty dc sc,(Builtin.copy_ #[35,35] ty #[.slice (some ⟨N,(i+1)*6,none⟩) (n - i) dc,.slice (some ⟨g,i*6,none⟩) (n - i) sc]).run Tryz.prog W2.drew = .ok (goInt (Nat.min (n - i) (n - i):Nat)) (W2.drew.setRow N c2.toArray):=fun ty dc sc=>by
  have:=zI (P:=Tryz.prog) W2.drew 35 35 ty 48 N ((i+1)*6) (n - i) dc 6 ⟨g,i*6,none⟩ (n - i) sc c1.toArray 48 (xs.drop (i*6)) Tryz.underlying35 hsz hr2.drew.1
   (by rw[hdl,show Nat.min (n - i) (n - i)=n - i by simp only[Nat.min_def];split<;>rfl]) (fun j v hj=>by
    rw[zw,show W2.drew.cell? ⟨g,i*6+j,none⟩=w.cell? ⟨g,i*6+j,none⟩from World.cell?_of_block (ho2 g hgw),cell_of_row w g _ _ _ (0,0) hr.1]
    rw[List.getElem?_drop,←hx,List.getElem?_take]at hj
    split at hj
    ·rw[←Array.getElem?_toList];exact hj
    cases hj) (by simp only[List.size_toArray,haa,hdl];omega) (fun u hu=>h1x u (List.mem_of_mem_drop hu))
  rw[this,←hc2]
 have hgH:Kept (fun b=>b=g) w W1:=by rw[hW1];exact(Kept.refl _ w).drew.alloc _
 have HH:=q7 (And.intro hN (And.intro hgH (And.intro hr1 (And.intro hr2 (And.intro hW2 (And.intro hc1 (And.intro hc2 (And.intro haa (And.intro hgG (And.intro hRt (And.intro hRs (And.intro hl hvl))))))))))))
 have HG:=q7 hG63
 have hGi:¬ G=i:=by unfold maxLen at hG63;omega
 have hGim:¬ G=i+1:=by omega
 have hci:¬ cap=i:=by omega
 have hw1:IntKind.i64.wrap ((i:Int)+1)=(i:Int)+1:=by rw[IntKind.wrap_i64];omega
 have hwn:IntKind.i64.wrap ((n:Int)+1)=(n:Int)+1:=by rw[IntKind.wrap_i64];omega
 have hwk:IntKind.i64.wrap ((n:Int)+1 - (i:Int))=(n:Int)+1 - (i:Int):=by rw[IntKind.wrap_i64];omega
 have hb1:(0:Int)≤(i:Int)+1:=by omega
 have hwc:(i:Int)+1≤(n:Int)+1:=by omega
 have hwd:(i:Int)≤(n:Int)+1:=by omega
 have hin:i≤n:=by omega
 have hic:i≤cap:=by omega
 have hb4:i+1≤G:=by omega
 have htn:((i:Int)+1).toNat=i+1:=by omega
 have hb3:(i:Int)≤(n:Int):=by omega
 have hsub:n+1 - (i+1)=n - i:=by omega
 have mixed:Tryz.prog.follows .mixedOrders=true:=by kernel_rfl
 clear hkk hik hold hROW hG hRs hRt hN hW1 hW2 hr1 hr2 ho1 ho2 hc1 hc2 haa hgG hr hx hl hvl hvb hdl hgH hG63 hz0 hZ hZs
 go_enter Tryz.func52,Tryz.ntmps52
 go_wp2_with (first
  | (at_builtin;refine Lib.wpList_append_run _ rfl _ _ _ _ rfl _ _ rfl rfl _ _ (hrz _) ?_)
  | (at_builtin;refine wpList_copy_row rfl _ _ 35 35 rfl _ _ rfl rfl (hcpA _ _) ?_))
 go_region_law_o (refine step_copy_row rfl _ _ 35 35 rfl _ _ (by simp[Act.eval,Act.put];exact⟨rfl,rfl⟩) (by simp[Act.eval,Act.put]) (hcpB _ _ _) ?_)
 go_wp2
 go_ret
 obtain⟨hN,hgH,hr1,hr2,hW2,hc1,hc2,haa,hgG,hRt,hRs,hl,hvl⟩:=HH.out
 refine⟨G,by rw[←hN];rfl,hGn,⟨_,by rw[←hN];exact hr2.drew.put hgG,?_⟩,?_⟩
 ·have e1:c1.take ((i+1)*6)=xs.take (i*6)++vc:=by
   have l0:(ROW.toList.take (i*6)++vc).length=(i+1)*6:=by simp only[List.length_append,List.length_take,Array.length_toList,hRs,hvl];omega
   rw[hc1,←l0,List.take_left,hRt]
  have l1:(xs.take (i*6)++vc++xs.drop (i*6)).length=(n+1)*6:=by
   simp only[List.length_append,List.length_take,List.length_drop,hl,hvl]
   omega
  rw[hc2,e1,←l1,List.take_left]
 have k1:=hr1.keep c1.toArray
 rw[←hW2]at k1
 refine((hgH.trans k1 (fun k hk h=>?_)).drew.trans (hr2.drew.keep c2.toArray) (fun k hk h=>?_))
 ·exact absurd h (by omega)
 exact absurd h (by omega)

theorem insB_any (g cap n i vb:Nat) (vc xs:List Value) (cur:Array Value) (w:World) (hr:RowAt w 48 g cap 6 cur) (hx:cur.toList.take (n*6)=xs) (hl:xs.length=n*6) (hn:n≤cap) (hbig:n≤1000000) (hi:i<n) (hvl:vc.length=6) (h1v:∀u∈vc,u.oneCell'=true) (h1x:∀u∈xs,u.oneCell'=true) (hvb:w.heap[vb]?=some (.cells vc.toArray 48 (0,0))) (hne:vb≠g) :
  Calls Tryz.prog 52 #[.slice (some ⟨g,0,none⟩) n cap,.int .i64 i,.slice (some ⟨vb,0,none⟩) 1 1] w fun e w'=>
   ∃g' G,e = .returned (.slice (some ⟨g',0,none⟩) (n+1) G)∧n+1≤G∧(g'=g∨w.heap.size≤g')∧(∃cur',RowAt w' 48 g' G 6 cur'∧cur'.toList.take ((n+1)*6)=xs.take (i*6)++vc++xs.drop (i*6))∧Kept (fun b=>b=g) w w':=by
 by_cases hc:n+1≤cap
 ·refine(insB_room g cap n i vb vc xs cur w hr hx hl hc hi hvl h1v h1x hvb hne).mono fun e w' h=>?_
  exact⟨g,cap,h.1,hc,.inl rfl,h.2.1,h.2.2⟩
 refine(insB_grow g cap n i vb vc xs cur w hr hx hl hn (by omega) hbig hi hvl h1v h1x hvb hne).mono fun e w' h=>?_
 obtain⟨G,h1,h2,h3,h4⟩:=h
 exact⟨w.heap.size,G,h1,h2,.inr (Nat.le_refl _),h3,h4⟩

theorem SlW.cons {α:Type} {e:TypeId} {size:Nat} {R:ElemO α} {w w':World} {v:Value} {xs:List α} {S T:Blks} {cs:Nat→List Value} {U:Nat→Blks} {g g' G:Nat} {c:List Value} {x:α} {cur':Array Value} (hR:jN R) (h:SlW e size R w v xs S cs U) (hob:v.ownBlock=some g) (hx:R w c x T) (hl:c.length=size) (h1:∀u∈c,u.oneCell'=true) (hT:Apart S T) (hTi:InB w T)
  (hr:RowAt w' e g' G size cur') (hG:xs.length+1≤G) (ht:cur'.toList.take ((xs.length+1)*size)=c++(List.range xs.length).flatMap cs) (hk:Kept (fun b=>b=g) w w') (hg:g'=g∨w.heap.size≤g') :
  SlO e size R w' (.slice (some ⟨g',0,none⟩) (xs.length+1) G) (x::xs) (fun k=>S k∨T k∨k=g'):=by
 have hgs:=h.blk g hob
 have hg2:∀k,(S k∧k≠g)∨T k→k≠g':=fun k hk1 e1=>by
  rcases hg with a|a
  ·rcases hk1 with b|b
   ·exact b.2 (e1.trans a)
   exact hT k (by rw[e1,a];exact hgs) b
  rcases hk1 with b|b
  ·have:=h.inb k b.1;omega
  have:=hTi k b;omega
 have hlt:g'<w'.heap.size:=(Array.getElem?_eq_some_iff.1 hr.1).1
 have hne:∀m,m<xs.length→∀k,U m k→k≠g:=fun m hm k hk1 e1=>h.off m hm g hob (e1 ▸ hk1)
 refine⟨fun m=>match m with|0=>c|m+1=>cs m,fun m=>match m with|0=>T|m+1=>U m,?_,fun m hm=>?_,fun m hm=>?_,fun m hm=>?_,fun m n hm hn hmn=>?_,fun m hm g2 hhH=>?_,fun g2 hhH=>?_,fun m hm k hk2=>?_,?_⟩
 ·have hfl:(List.range (x::xs).length).flatMap (fun m=>match m with|0=>c|m+1=>cs m)=c++(List.range xs.length).flatMap cs:=by
   rw[List.length_cons,List.range_succ_eq_map,List.flatMap_cons,List.flatMap_map]
  rw[hfl]
  exact hr.own hG (by rw[List.length_append,hl,qI _ h.len,Nat.add_mul];omega) ht
 ·cases m with
  | zero=>exact hl
  | succ m=>exact h.len m (by simpa using hm)
 ·cases m with
  | zero=>exact h1
  | succ m=>exact h.one m (by simpa using hm)
 ·cases m with
  | zero=>exact hR _ _ _ _ _ hx (fun k hk1=>hk.block k (hTi k hk1) (fun e1=>hT k (by rw[e1];exact hgs) hk1)) hk.size
  | succ m=>
   have hm2:m<xs.length:=by simpa using hm
   exact hR _ _ _ _ _ (h.el m hm2) (fun k hk1=>hk.block k (h.inb k (h.sub m hm2 k hk1)) (hne m hm2 k hk1)) hk.size
 ·cases m with
  | zero=>
   cases n with
   | zero=>exact absurd rfl hmn
   | succ n=>exact fun k a b=>hT k (h.sub n (by simpa using hn) k b) a
  | succ m=>
   have hm2:m<xs.length:=by simpa using hm
   cases n with
   | zero=>exact fun k a b=>hT k (h.sub m hm2 k a) b
   | succ n=>exact h.two m n hm2 (by simpa using hn) (by omega)
 ·cases hhH
  cases m with
  | zero=>exact fun a=>hg2 g' (.inr a) rfl
  | succ m=>
   have hm2:m<xs.length:=by simpa using hm
   exact fun a=>hg2 g' (.inl ⟨h.sub m hm2 g' a,hne m hm2 g' a⟩) rfl
 ·cases hhH
  exact .inr (.inr rfl)
 ·cases m with
  | zero=>exact .inr (.inl hk2)
  | succ m=>exact .inl (h.sub m (by simpa using hm) k hk2)
 rintro k (a|a|a)
 ·exact(h.inb.mono hk.size) k a
 ·exact(hTi.mono hk.size) k a
 rw[a];exact hlt

theorem insB_slo {v:Value} {xs:List BlkL} {S T:Blks} {y:BlkL} {vc:List Value} {vb:Nat} (w:World) (hO:SlO 48 6 BlkO w v xs S) (h0:0<xs.length) (hbig:xs.length≤1000000) (hy:BlkO w vc y T) (hvl:vc.length=6) (h1v:∀u∈vc,u.oneCell'=true) (hT:Apart S T) (hTi:InB w T) (hvb:w.heap[vb]?=some (.cells vc.toArray 48 (0,0))) (hne:¬ S vb) :
  Calls Tryz.prog 52 #[v,.int .i64 0,.slice (some ⟨vb,0,none⟩) 1 1] w fun e w'=>
   ∃p c S',e = .returned (.slice p (xs.length+1) c)∧SlO 48 6 BlkO w' (.slice p (xs.length+1) c) (y::xs) S'∧(∀k,S' k→S k∨T k∨w.heap.size≤k)∧Kept S w w':=by
 obtain⟨cs,U,h⟩:=hO
 rcases h.own.2 with⟨_,h2⟩|⟨g,cap,cur,hv,hb,hg,hc1,hc2,hc3,htk⟩
 ·omega
 have hob:v.ownBlock=some g:=by rw[hv];rfl
 have hgs:=h.blk g hob
 rw[hv]
 have hfl:=qI xs.length h.len
 refine(insB_any g cap xs.length 0 vb vc _ cur w ⟨hg,hc3,hc2⟩ htk hfl hc1 hbig h0 hvl h1v (fun u hu=>?_) hvb (fun e1=>hne (by rw[e1];exact hgs))).mono fun e w' hh=>?_
 ·obtain⟨i,hi,hu⟩:=List.mem_flatMap.1 hu
  exact h.one i (List.mem_range.1 hi) u hu
 obtain⟨g',G,a1,a2,a3,⟨cur',a4,a5⟩,a6⟩:=hh
 rw[Nat.zero_mul,List.take_zero,List.nil_append,List.drop_zero]at a5
 refine⟨_,G,_,a1,h.cons qE hob hy hvl h1v hT hTi a4 a2 a5 a6 a3,fun k hk=>?_,a6.mono fun i hi e1=>by rw[e1];exact hgs⟩
 rcases hk with b|b|b
 ·exact .inl b
 ·exact .inr (.inl b)
 rcases a3 with c|c
 ·exact .inl (by rw[b,c];exact hgs)
 exact .inr (.inr (by omega))
end Go.Proofs.YtecdphhdmjmmnaaGreatDoor
namespace Go.Proofs.YtecdphhdmjmmnaaGreatDoor
open Go.RowKit Go.Shelf Go.Lib Go.Sort

theorem XB {w:World} {g q:Nat} {d:Array Int}:w.grownBy (putRow (Value.int .i64) (Sort.ahead w q) g 0 d) (some g):=by
 refine⟨rfl,rfl,rfl,by simp[putRow,mapBlock,Sort.ahead],fun k _ hne=>?_⟩
 have:g≠k:=fun e=>hne (by rw[e])
 simp[putRow,mapBlock,Sort.ahead,Array.getElem?_modify,this]
end Go.Proofs.YtecdphhdmjmmnaaGreatDoor
namespace Go.Proofs.YtecdphhdmjmmnaaGreatDoor
open Go.RowKit Go.Shelf
attribute [local go_sem] Oper.semAt_some

structure BackSh (X:Nat) (p:Option Addr) (c:Nat) (xs:List Int) (W:World):Prop where
 box:W.cell? ⟨X,0,none⟩=some (.slice p xs.length c)
 el:∀i (h:i<xs.length),∃b o,p=some ⟨b,o,none⟩∧W.cell? ⟨b,o+i,none⟩=some (.int .i64 xs[i])
theorem BackSh.other {X c:Nat} {p:Option Addr} {xs:List Int} {W W':World} (h:BackSh X p c xs W) (hk:∀b o v,W.cell? ⟨b,o,none⟩=some v→(b=X∨∃o,p=some ⟨b,o,none⟩)→W'.cell? ⟨b,o,none⟩=some v):BackSh X p c xs W':=
 ⟨hk _ _ _ h.box (.inl rfl),fun i hi=>by
  obtain⟨b,o,hp,hc⟩:=h.el i hi
  exact⟨b,o,hp,hk _ _ _ hc (.inr ⟨o,hp⟩)⟩⟩
theorem BackSh.putObj {X c:Nat} {p:Option Addr} {xs:List Int} {W:World} (h:BackSh X p c xs W) {l:Nat} {o:Obj} (o':Obj) (hl:W.heap[l]?=some o) (ho:o.isCells=false):BackSh X p c xs (W.putObj l o'):=
 h.other fun b o v hc _=>by
  have hne:b≠l:=xM hl ho hc
  exact(World.cell?_of_block (a:=⟨b,o,none⟩) (World.putObj_heap_other (by omega))).trans hc
theorem own_back {X c:Nat} {p:Option Addr} {xs:List Int} {B:Nat}:OwnFrom B (fun(_:Nat) W=>BackSh X p c xs W):=fun s W W' row hs hg hr=>
 hs.other fun b o v hc _=>(World.cell?_of_block (a:=⟨b,o,none⟩) (hg.block b (q8 hc) (fun e=>by
  obtain⟨_,x,hx,hn⟩:=hr b e.symm
  exact xM hx hn hc rfl))).trans hc

def V6 (xs:List Int) (i:Nat):Array Value:=#[.int .i64 ((xs.length - 1 - i:Nat):Int),.int .i64 (xs.getD (xs.length - 1 - i) 0)]

theorem XC (p:Option Addr) (n c:Nat) (w:World) :
  Calls Tryz.prog 129 #[.slice p n c] w fun e w'=>e = .returned (.func (.func 160) #[] #[.pointer (some ⟨w.heap.size,0,none⟩)])∧w'=w.alloc (.cells #[.slice p n c] 44):=by
 go_enter Tryz.func129,Tryz.ntmps129
 go_wp2
 go_ret
 exact⟨rfl,rfl⟩

theorem back_at (F:Fence) (n:Nat) (hF:F.fn 160) (hro:F.round=none) (hn:1≤n) (X c:Nat) (p:Option Addr) (xs:List Int) (w:World) (hl:xs.length≤140737488355328) (hsh:BackSh X p c xs w) :
  SeqAt F n Tryz.prog 160 #[.pointer (some ⟨X,0,none⟩)] (V6 xs) xs.length (fun W W'=>BackSh X p c xs W→BackSh X p c xs W') w:=by
 intro l J Jx W hW _ _ hY h0
 have HS:=q7 (hsh.other (W':=W) fun b o v hc _=>(hW.cell (p:=⟨b,o,none⟩) (q8 hc)).trans hc)
 have HY:=q7 hY
 clear hsh hY hW
 refine callsIn_of_wp Tryz.func160 rfl hF ?_ hro
 simp only[Tryz.ntmps160,List.size_toArray,List.length_cons,List.length_nil,Nat.reduceAdd,Nat.reduceSub,Array.replicate_succ,Array.replicate_zero,List.push_toArray,List.append_toArray,List.nil_append,List.cons_append]
 have cb:=HS.out.box
 gi_wp2
 gi_loopw [3] (fun i wr=>∃m:Nat,m≤xs.length∧i = .int .i64 ((xs.length:Int) - 1 - m)∧J m wr∧BackSh X p c xs wr) (fun i _=>(intOf i+1).toNat)
 case atStart=>exact⟨0,by omega,by simp,h0,HS.out⟩
 case round=>
  clear cb
  obtain⟨m,hm,rfl,hJ,hK⟩:=hrel
  have cb:=hK.box
  have HK:=q7 hK
  clear hK
  by_cases hlt:m<xs.length
  rotate_left
  ·obtain rfl:m=xs.length:=by omega
   gi_wp2
   go_end0
   exact⟨⟨_,rfl⟩,.inl hJ⟩
  have hk:xs.length - 1 - m<xs.length:=by omega
  obtain⟨b,o,rfl,e1⟩:=HK.out.el _ hk
  have hj:(xs.length:Int) - 1 - m=((xs.length - 1 - m:Nat):Int):=by omega
  obtain⟨fn,tmps,assign,body,hy,hR⟩:=HY.out _ wr hlt hJ
  have he:V6 xs m=#[.int .i64 ((xs.length - 1 - m:Nat):Int),.int .i64 (xs[xs.length - 1 - m])]:=by
   unfold V6
   rw[List.getD_eq_getElem?_getD,List.getElem?_eq_getElem hk]
   rfl
  rw[he]at hy
  rw[hj]
  generalize hkk:xs.length - 1 - m=k at *
  have HKK:=q7 hkk
  have HR:=q7 hR
  clear hR he hj hkk
  gi_wp2
  refine HR.out.mono ?_
  rintro e W3 (⟨rfl,hJ3,hk3⟩|⟨rfl,hJx3⟩)
  ·have HK3:=q7 (hk3 HK.out)
   clear hk3
   gi_wp2
   go_roundw
   case rel=>exact⟨m+1,by omega,by have:=HKK.out;congr 1;omega,hJ3,HK3.out⟩
   case measure=>simp[intOf]
  gi_wp2
  refine bodyPost_ret (results_none rfl _ _ _) rfl ?_
  exact⟨⟨_,rfl⟩,.inr ⟨_,hlt,hJx3⟩⟩
end Go.Proofs.YtecdphhdmjmmnaaGreatDoor
namespace Go.Proofs.YtecdphhdmjmmnaaGreatDoor
open Go.RowKit Go.Shelf

def marks (Ds:List Nat):List Deferred:=Ds.map fun D=>{ target:=.collected D,args:=#[] }
theorem xP {F:Fence} {n:Nat} {P:Program} {fn:Func} {tmps:Array Value} {R:Ending→World→Prop} (B:Nat):∀(Ds:List Nat) (w:World),Ds.Nodup→(∀D∈Ds,B≤D∧w.heap[D]?=some (.deferred (some [])))→
  (∀w',w'.os=w.os→w'.tape=w.tape→w'.output=w.output→w.heap.size≤w'.heap.size→(∀k,k∉Ds→w'.heap[k]?=w.heap[k]?)→∃v,(results fn tmps).run P w' = .ok v w'∧R (.returned v) w')→LeavesInM F n P fn tmps R (marks Ds) .returning w
 | [],w,_,_,h=>h w rfl rfl rfl (Nat.le_refl _) (fun _ _=>rfl)
 | D::Ds,w,hn,hD,h=>by
  obtain⟨hn1,hn2⟩:=List.nodup_cons.1 hn
  refine⟨by simp,.inl ⟨D,_,rfl,run_takeDeferred (hD D List.mem_cons_self).2,?_⟩⟩
  refine xP B Ds _ hn2 (fun E hE=>?_) (fun w' h1 h2 h3 h4 h5=>?_)
  ·obtain⟨a,b⟩:=hD E (List.mem_cons_of_mem _ hE)
   exact⟨a,(World.putObj_heap_other (fun e=>hn1 (by rw[←e];exact hE))).trans b⟩
  refine h w' h1 h2 h3 (by simpa using h4) (fun k hk=>?_)
  rw[h5 k (fun hh=>hk (List.mem_cons_of_mem _ hh))]
  exact World.putObj_heap_other (fun e=>hk (by rw[e];exact List.mem_cons_self))
attribute [local go_sem] Oper.semAt_some

theorem infoInt3:(Tryz.prog.info? 3).map (fun i=>(i.zero,i.size,i.bytes))=some (some (.int .i64 0),1,8):=by kernel_rfl
theorem VQ:Tryz.prog.underlying 44=some (.slice 3):=by kernel_rfl
end Go.Proofs.YtecdphhdmjmmnaaGreatDoor
namespace Go.Proofs.YtecdphhdmjmmnaaGreatDoor
open Go.RowKit Go.Lib

theorem ChkOk.ins {u:UniL} (h:ChkOk u) {k:Nat} (hk:k<u.funcs.length):∀i∈allIns u.funcs[k],insL u u.funcs[k] i=0:=by
 intro i hi
 have hb:=h.body k hk
 unfold kM at hb
 rw[List.getElem?_eq_getElem hk]at hb
 simp only at hb
 unfold jK at hb
 split at hb
 ·obtain⟨b,hbm,him⟩:=List.mem_flatMap.1 hi
  obtain⟨j,hj,rfl⟩:=List.getElem_of_mem hbm
  have hbj:=xe hb (Jo u u.funcs[k] j) (List.mem_map.2 ⟨j,List.mem_range.2 hj,rfl⟩)
  unfold Jo at hbj
  rw[List.getElem?_eq_getElem hj]at hbj
  simp only at hbj
  unfold blkE at hbj
  split at hbj
  ·exact xe hbj _ (List.mem_map.2 ⟨i,him,rfl⟩)
  rename_i hne
  exact absurd hbj hne
 rename_i hne
 exact absurd hb hne
end Go.Proofs.YtecdphhdmjmmnaaGreatDoor
namespace Go.Proofs.YtecdphhdmjmmnaaGreatDoor

def xg (n:Nat) (had:Nat→Bool):Nat:=((List.range n).filter fun j=>!had j).length
theorem k8 {p q:Nat→Bool}:∀(l:List Nat),(∀x∈l,p x=true→q x=true)→(l.filter p).length≤(l.filter q).length
 | [],_=>by simp
 | a::l,h=>by
  have ih:=k8 l (fun x hx=>h x (List.mem_cons_of_mem _ hx))
  have ha:=h a List.mem_cons_self
  by_cases hp:p a=true
  ·rw[List.filter_cons_of_pos hp,List.filter_cons_of_pos (ha hp)]
   simpa using ih
  rw[List.filter_cons_of_neg hp]
  by_cases hq:q a=true
  ·rw[List.filter_cons_of_pos hq];simp;omega
  rw[List.filter_cons_of_neg hq];exact ih
theorem QA {p q:Nat→Bool} {k:Nat}:∀(l:List Nat),(∀x∈l,p x=true→q x=true)→k∈l→p k=false→q k=true→(l.filter p).length<(l.filter q).length
 | [],_,h,_,_=>by cases h
 | a::l,h,hk,h1,h2=>by
  have ha:=h a List.mem_cons_self
  rcases List.mem_cons.1 hk with e|hk2
  ·subst e
   have ih:=k8 l (fun x hx=>h x (List.mem_cons_of_mem _ hx))
   rw[List.filter_cons_of_neg (by simp[h1]),List.filter_cons_of_pos h2]
   simp;omega
  have ih:=QA l (fun x hx=>h x (List.mem_cons_of_mem _ hx)) hk2 h1 h2
  by_cases hp:p a=true
  ·rw[List.filter_cons_of_pos hp,List.filter_cons_of_pos (ha hp)]
   simpa using ih
  rw[List.filter_cons_of_neg hp]
  by_cases hq:q a=true
  ·rw[List.filter_cons_of_pos hq];simp;omega
  rw[List.filter_cons_of_neg hq];exact ih
theorem kT {n:Nat} {p q:Nat→Bool} (h:∀j,p j=true→q j=true):xg n q≤xg n p:=
 k8 _ fun x _ hx=>by
  cases hp:p x with
  | false=>rfl
  | true=>rw[h x hp]at hx;cases hx
theorem VR {n k:Nat} {p q:Nat→Bool} (h:∀j,p j=true→q j=true) (hk:k<n) (h1:p k=false) (h2:q k=true):xg n q<xg n p:=by
 refine QA (k:=k) _ (fun x _ hx=>?_) (List.mem_range.2 hk) (by simp[h2]) (by simp[h1])
 cases hp:p x with
 | false=>rfl
 | true=>rw[h x hp]at hx;cases hx

end Go.Proofs.YtecdphhdmjmmnaaGreatDoor
namespace Go.Proofs.YtecdphhdmjmmnaaGreatDoor
open Go.RowKit Go.Shelf

abbrev PostS:=(Nat→Bool)×List Int
def zJ (rec:Nat→PostS→PostS) (s:PostS) (t:Int):PostS:=if s.1 t.toNat then s else rec t.toNat s
def zN (rec:Nat→PostS→PostS) (xs:List Int) (s:PostS):Nat→PostS
 | 0=>s
 | i+1=>zJ rec (zN rec xs s i) (xs.getD (xs.length - 1 - i) 0)
def zY (b:Nat) (s:PostS):PostS:=(fun j=>if j=b then true else s.1 j,s.2)
def jy (tos:Nat→List Int):Nat→Nat→PostS→PostS
 | 0,_,s=>s
 | c+1,b,s=>((zN (jy tos c) (tos b) (zY b s) (tos b).length).1,(zN (jy tos c) (tos b) (zY b s) (tos b).length).2++[(b:Int)])

theorem ZK {b:Nat} {s:PostS} {j:Nat} (h:s.1 j=true):(zY b s).1 j=true:=by
 show(if j=b then true else s.1 j)=true
 split
 ·rfl
 exact h
theorem ju {n b:Nat} {s:PostS} (hb:b<n) (h:s.1 b=false):xg n (zY b s).1<xg n s.1:=
 VR (fun _=>ZK) hb h (by show(if b=b then true else _)=true;simp)

structure VisOk (n:Nat) (s s':PostS):Prop where
 up:∀j,s.1 j=true→s'.1 j=true
 many:s'.2.length+xg n s'.1≤s.2.length+xg n s.1
theorem VisOk.refl (n:Nat) (s:PostS):VisOk n s s:=⟨fun _ h=>h,Nat.le_refl _⟩
theorem VisOk.trans {n:Nat} {a b c:PostS} (h:VisOk n a b) (k:VisOk n b c):VisOk n a c:=⟨fun j e=>k.up j (h.up j e),Nat.le_trans k.many h.many⟩

theorem Qb {n:Nat} {rec:Nat→PostS→PostS} {xs:List Int} (hx:∀x∈xs,0≤x∧x<(n:Int)) {s:PostS} (h:∀b s',b<n→s'.1 b=false→VisOk n s s'→VisOk n s' (rec b s')):∀i,i≤xs.length→VisOk n s (zN rec xs s i)
 | 0,_=>VisOk.refl _ _
 | i+1,hi=>by
  have ih:=Qb hx h i (by omega)
  show VisOk n s (zJ rec (zN rec xs s i) (xs.getD (xs.length - 1 - i) 0))
  unfold zJ
  have hk:xs.length - 1 - i<xs.length:=by omega
  have hm:=hx _ (List.getElem_mem hk)
  rw[List.getD_eq_getElem?_getD,List.getElem?_eq_getElem hk]
  cases e:(zN rec xs s i).1 (xs[xs.length - 1 - i]).toNat
  ·rw[show((some xs[xs.length - 1 - i]).getD 0)=xs[xs.length - 1 - i]from rfl,e]
   exact ih.trans (h _ _ (by omega) e ih)
  rw[show((some xs[xs.length - 1 - i]).getD 0)=xs[xs.length - 1 - i]from rfl,e]
  exact ih
theorem JC {n:Nat} {tos:Nat→List Int} (hT:∀b,b<n→∀x∈tos b,0≤x∧x<(n:Int)):∀(c b:Nat) (s:PostS),b<n→s.1 b=false→VisOk n s (jy tos c b s)
 | 0,_,s,_,_=>VisOk.refl n s
 | c+1,b,s,hb,h=>by
  have h1:=ju (n:=n) hb h
  have h2:=Qb (n:=n) (rec:=jy tos c) (xs:=tos b) (hT b hb) (s:=zY b s) (fun b' s' hb' h' _=>JC hT c b' s' hb' h') (tos b).length (Nat.le_refl _)
  refine⟨fun j e=>h2.up j (ZK e),?_⟩
  have h3:=h2.many
  have h4:(zY b s).2=s.2:=rfl
  rw[h4]at h3
  show((zN (jy tos c) (tos b) (zY b s) (tos b).length).2++[(b:Int)]).length+_≤_
  rw[List.length_append]
  show _+1+xg n (zN (jy tos c) (tos b) (zY b s) (tos b).length).1≤_
  omega

structure PostM (W:World) (V L n B:Nat) (tb ti:TypeId) (tl:TypeId) (lv:Value) (s:PostS):Prop where
 seen:W.rowIs V tb n (fun j=>.bool (s.1 j))
 var:W.heap[L]?=some (.cells #[lv] tl (0,0))
 own:W.ownsRow B ti 1 lv s.2.length (s.2.map (.int .i64))
structure PostI (W0:World) (lv0:Value) (V L n B:Nat) (tb ti tl:TypeId) (lv:Value) (s:PostS) (W:World):Prop where
 st:PostM W V L n B tb ti tl lv s
 kept:Kept (fun k=>k=V∨k=L∨some k=lv0.ownBlock) W0 W
 blk:lv.ownBlock=lv0.ownBlock∨∃k,lv.ownBlock=some k∧W0.heap.size≤k

theorem PostI.trans {W0 W1 W2:World} {lv0 lv1 lv2:Value} {V L n B:Nat} {tb ti tl:TypeId} {s1 s2:PostS} (h:PostI W0 lv0 V L n B tb ti tl lv1 s1 W1) (k:PostI W1 lv1 V L n B tb ti tl lv2 s2 W2):PostI W0 lv0 V L n B tb ti tl lv2 s2 W2 where
 st:=k.st
 kept:=h.kept.trans k.kept fun i hi hS=>by
  rcases hS with e|e|e
  ·exact .inl e
  ·exact .inr (.inl e)
  rcases h.blk with g|⟨q,g,hq⟩
  ·exact .inr (.inr (e.trans g))
  rw[g]at e;injection e with e;omega
 blk:=by
  rcases k.blk with g|⟨q,g,hq⟩
  ·rcases h.blk with g2|⟨q,g2,hq⟩
   ·exact .inl (g.trans g2)
   exact .inr ⟨q,g.trans g2,hq⟩
  exact .inr ⟨q,g,Nat.le_trans h.kept.size hq⟩
theorem PostI.base {w1 W0 W:World} {lv0 lv:Value} {V L n B:Nat} {tb ti tl:TypeId} {s s0:PostS} (h:PostI W0 lv0 V L n B tb ti tl lv s W) (h0:PostM W0 V L n B tb ti tl lv0 s0) (hB:w1.heap.size≤B) (hk:Kept (fun k=>k=V∨k=L) w1 W0):Kept (fun k=>k=V∨k=L) w1 W:=
 hk.trans h.kept fun i hi hS=>by
  rcases hS with e|e|e
  ·exact .inl e
  ·exact .inr e
  have:=(h0.own.lt i e.symm).1
  omega
theorem PostM.grown {W W':World} {V L n B:Nat} {tb ti tl:TypeId} {lv:Value} {s:PostS} {row:Option Nat} (h:PostM W V L n B tb ti tl lv s) (hg:W.grownBy W' row) (hr:∀r,row=some r→∃o:Obj,W.heap[r]?=some o∧o.isCells=false):PostM W' V L n B tb ti tl lv s where
 seen:=h.seen.of_block (hg.block V h.seen.lt (fun e=>by
  obtain⟨o,ho,hc⟩:=hr V e.symm
  obtain⟨cs,hcs⟩:=h.seen
  rw[hcs.1]at ho
  cases ho;cases hc))
 var:=(hg.block L (Array.getElem?_eq_some_iff.1 h.var).1 (fun e=>by
  obtain⟨o,ho,hc⟩:=hr L e.symm
  rw[h.var]at ho
  cases ho;cases hc)).trans h.var
 own:=h.own.kept hg (by
  rcases h.own.2 with⟨hv,_⟩|⟨g,cap,cur,hv,_,hh,_⟩
  ·rw[hv];exact .inl rfl
  right
  rw[hv]
  intro e
  obtain⟨o,ho,hc⟩:=hr g e.symm
  rw[hh]at ho
  cases ho;cases hc)
theorem V7 {W0:World} {lv0:Value} {V L n B B':Nat} {tb ti tl:TypeId} (hB:W0.heap.size≤B') (g:Nat→PostS):OwnFrom B' (fun i W=>∃lv,PostI W0 lv0 V L n B tb ti tl lv (g i) W):=by
 rintro s W W' row ⟨lv,h⟩ hg hr
 refine⟨lv,h.st.grown hg (fun r e=>(hr r e).2),?_,h.blk⟩
 exact⟨hg.os.trans h.kept.os,hg.tape.trans h.kept.tape,hg.output.trans h.kept.output,Nat.le_trans h.kept.size hg.size,fun k hk hn=>(hg.block k (Nat.lt_of_lt_of_le hk h.kept.size) (fun e=>by have:=(hr k e.symm).1;omega)).trans (h.kept.block k hk hn)⟩
theorem PostM.loc {W W':World} {V L n B:Nat} {tb ti tl:TypeId} {lv:Value} {s:PostS} (h:PostM W V L n B tb ti tl lv s) (hb:Below W.heap.size W W'):PostM W' V L n B tb ti tl lv s:=
 ⟨h.seen.of_block (hb.block V h.seen.lt),(hb.block L (Array.getElem?_eq_some_iff.1 h.var).1).trans h.var,vT h.own hb⟩
theorem PostI.here {W:World} {V L n B:Nat} {tb ti tl:TypeId} {lv:Value} {s:PostS} (h:PostM W V L n B tb ti tl lv s):PostI W lv V L n B tb ti tl lv s W:=⟨h,Kept.refl _ _,.inl rfl⟩
theorem PostI.below {W0 W W':World} {lv0:Value} {V L n B:Nat} {tb ti tl:TypeId} {lv:Value} {s:PostS} (h:PostI W0 lv0 V L n B tb ti tl lv s W) (hb:Below W.heap.size W W'):PostI W0 lv0 V L n B tb ti tl lv s W':=
 h.trans ⟨h.st.loc hb,Kept.of_below hb,.inl rfl⟩
end Go.Proofs.YtecdphhdmjmmnaaGreatDoor
