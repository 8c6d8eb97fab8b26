/-
  Plain: depth first, blocks as they are left (graph.Post), and its state in a world.
-/
import Derived.Shelf.Bits.Mul64
import Derived.Test.YtgjjhadbjmcnpaaGreatDoorJOwnD
import Derived.Lib.OwnBridge
import Derived.Sort.OwnSortedInts
import Derived.Shelf.Sort.Plain
import Derived.Shelf.Slices.CompactI
import Derived.Shelf.Slices.In.SortNone
import Derived.RangeFuncFrom
set_option maxRecDepth 100000
set_option maxHeartbeats 16000000
namespace Go.Proofs
open Go.Shelf Go.RowKit Go.Lib
def Tryz.lays212_ren:Go.Shelf.Ren:=⟨fun|212=>105|263=>112|264=>113|n=>n,fun|46=>151|51=>162|53=>165|146=>163|148=>166|n=>n,fun|n=>n⟩
theorem Tryz.lays212:Go.Proofs.Lays.n212 Tryz.prog Tryz.lays212_ren:={
 mixed:=by kernel_rfl
 f212:=Tryz.func105.trans (congrArg some (by kernel_rfl))
 f263:=Tryz.func112.trans (congrArg some (by kernel_rfl))
 f264:=Tryz.func113.trans (congrArg some (by kernel_rfl))
 t46:=Tryz.underlying151
 a46:=Tryz.isAgg151
 z46:=Tryz.sizeOf151
 v46:=Tryz.zeroValue151
 t51:=Tryz.underlying162
 a51:=Tryz.isAgg162
 z51:=Tryz.sizeOf162
 v51:=Tryz.zeroValue162
 t53:=Tryz.underlying165
 a53:=Tryz.isAgg165
 z53:=Tryz.sizeOf165
 v53:=Tryz.zeroValue165
 t146:=Tryz.underlying163
 a146:=Tryz.isAgg163
 z146:=Tryz.sizeOf163
 v146:=Tryz.zeroValue163
 t148:=Tryz.underlying166
 a148:=Tryz.isAgg166
 z148:=Tryz.sizeOf166
 v148:=Tryz.zeroValue166 }
end Go.Proofs
namespace Go.Proofs.YtgjjhadbjmcnpaaGreatDoor
open Go.RowKit Go.Shelf Go.Lib

theorem Jg (x y:Nat) (hx:x<18446744073709551616) (hy:y<18446744073709551616) (w:World) :
  Calls Tryz.prog 105 #[.int .u64 x,.int .u64 y] w fun e w'=>e = .returned (.tuple #[.int .u64 ((x*y / 18446744073709551616:Nat):Int),.int .u64 ((x*y % 18446744073709551616:Nat):Int)])∧w'=w:=
 Any.bits_Mul Tryz.lays212 x y hx hy w

theorem jC {P:Program} (w:World) (dT sT ty elem:TypeId) (g o dLen dCap size:Nat) (a:Addr) (sLen sCap:Nat) (cur:Array Value) (t:TypeId) (cs:List Value)
  (hu:P.underlying dT=some (.slice elem)) (hs:(P.info? elem).map (·.size)=some size)
  (hg:w.heap[g]?=some (.cells cur t (0,0))) (hn:cs.length=Nat.min sLen dLen*size)
  (hsrc:∀j v,cs[j]?=some v→w.cell? (a.add j)=some v) (hfit:o+cs.length≤cur.size) (h1:∀v∈cs,v.oneCell'=true) :
  (Builtin.copy_ #[dT,sT] ty #[.slice (some ⟨g,o,none⟩) dLen dCap,.slice (some a) sLen sCap]).run P w =
   .ok (goInt (Nat.min sLen dLen:Nat)) (w.setRow g (cur.toList.take o++cs++cur.toList.drop (o+cs.length)).toArray):=by
 have hl:=run_loadCells_list (P:=P) w a cs hsrc
 have hst:=run_storeCells_at P g o t cs 0 cur w hg (by simpa using hfit) h1
 cases hq:P.info? elem with
 | none=>simp [hq] at hs
 | some i=>
  have hi:i.size=size:=by simpa [hq] using hs
  simp [Builtin.copy_,run_underlying hu,Builtin.lenOf,Builtin.firstCells,sizeOf,typeInfo,hq,hi,←hn,hl,hst]

theorem Xp (b o j:Nat):(⟨b,o,none⟩:Addr).add j=⟨b,o+j,none⟩:=by unfold Addr.add;split<;>simp_all
def kp (z:Int) (m:Nat) (j:Nat):Value:=if j<m then .int .i64 z else .int .i64 0

theorem kq {P:Program} (w:World) (dT sT ty elem:TypeId) (g size N m c dLen dCap sLen sCap:Nat) (a:Addr) (t:TypeId) (z:Int)
  (hu:P.underlying dT=some (.slice elem)) (hs:(P.info? elem).map (·.size)=some size)
  (hg:w.rowIs g t N (kp z m)) (hn:c=Nat.min sLen dLen*size) (hsrc:∀j,j<c→w.cell? (a.add j)=some (.int .i64 z)) (hfit:m+c≤N) :
  ∃w',(Builtin.copy_ #[dT,sT] ty #[.slice (some ⟨g,m,none⟩) dLen dCap,.slice (some a) sLen sCap]).run P w = .ok (goInt (Nat.min sLen dLen:Nat)) w'∧w'.rowIs g t N (kp z (m+c))∧Kept (fun k=>k=g) w w':=by
 obtain ⟨cur,h1,h2,h3⟩:=hg
 have hr:=jC (P:=P) w dT sT ty elem g m dLen dCap size a sLen sCap cur t (List.replicate c (.int .i64 z)) hu hs h1 (by simpa using hn)
  (fun j v hj=>by
   rw [List.getElem?_replicate] at hj
   split at hj
   ·next hlt=>
    injection hj with hj
    rw [←hj]
    exact hsrc j hlt
   cases hj)
  (by simp;omega) (fun v hv=>by rw [(List.mem_replicate.1 hv).2];rfl)
 refine ⟨_,hr,⟨_,setRow_heap w g cur _ t _ h1,by simp;omega,fun i hi=>?_⟩,⟨rfl,rfl,rfl,by simp [World.setRow],fun k _ hn=>setRow_other w g k _ (fun e=>hn e)⟩⟩
 have hcl:cur.toList.length=N:=by simpa using h2
 rw [List.getElem?_toArray,List.append_assoc]
 unfold kp
 by_cases a1:i<m
 ·rw [if_pos (by omega),List.getElem?_append_left (by simp;omega),List.getElem?_take_of_lt a1,Array.getElem?_toList,h3 i hi]
  unfold kp
  rw [if_pos a1]
 rw [List.getElem?_append_right (by simp;omega)]
 have e1:(cur.toList.take m).length=m:=by simp;omega
 rw [e1]
 by_cases a2:i<m+c
 ·rw [if_pos a2,List.getElem?_append_left (by simp;omega),List.getElem?_replicate,if_pos (by omega)]
 rw [if_neg a2,List.getElem?_append_right (by simp;omega),List.length_replicate,List.getElem?_drop]
 have e2:m+c+(i - m - c)=i:=by omega
 rw [e2,Array.getElem?_toList,h3 i hi]
 unfold kp
 rw [if_neg a1]
theorem exec_copy {P:Program} {o:Oper} {a:Act} {w w':World} {d s:Operand} {t t':TypeId} {u v v':Value} (ho:o.op = .call { callee:=.builtin .copy,args:=#[d,s],argTypes:=#[t,t'] }) (hd:a.eval d=v) (hs:a.eval s=u) (h:(Builtin.copy_ #[t,t'] o.type #[v,u]).run P w = .ok v' w') :
  (execOp a.eval o).run P w = .ok (.value v') w':=by
 unfold execOp
 simp only [ho,resolve,invoke,builtin,Sem.run_bind,Sem.run_pure,Result.andThen_ok,List.map_toArray,List.map_cons,List.map_nil,hd,hs,h]
theorem Jh:(Tryz.prog.info? 3).map (fun i=>(i.zero,i.size,i.bytes))=some (some (.int .i64 0),1,8):=by kernel_rfl
theorem QB:(Tryz.prog.info? 3).map (·.size)=some 1:=by kernel_rfl
theorem jY:Tryz.prog.underlying 45=some (.slice 3):=by kernel_rfl
theorem Zc (xb xo xc:Nat) (z:Int) (n:Nat) (w:World) (hn:n≤1000000) (hx:∀j,j<1→w.cell? ⟨xb,xo+j,none⟩=some (.int .i64 z)) :
  Calls Tryz.prog 92 #[.slice (some ⟨xb,xo,none⟩) 1 xc,.int .i64 n] w fun e w'=>e = .returned (.slice (some ⟨w.heap.size,0,none⟩) n n)∧w'.rowIs w.heap.size 3 n (fun _=>.int .i64 z)∧Below w.heap.size w w':=by
 obtain ⟨i1,k1,k2,k3,k4⟩:=info_parts Jh
 have hmk:=run_make_row 45 3 i1 (.int .i64 0) jY k1 k2 k3 rfl .i64 .i64 n (by rw [k4];omega) (by omega)
 have hrow:=World.rowIs_made w (.int .i64 0) n 3
 have hbm:=Jg 1 n (by omega) (by omega)
 have e0:1*n / 18446744073709551616=0:=by omega
 have e1:1*n % 18446744073709551616=n:=by omega
 have eu1:IntKind.u64.wrap 1=1:=by decide
 have eun:IntKind.u64.wrap (n:Int)=n:=by rw [IntKind.wrap_u64];omega
 have ein:IntKind.i64.wrap (n:Int)=n:=by rw [IntKind.wrap_i64];omega
 simp only [e0,e1] at hbm
 have HX:=q8 hx
 have HR:=q8 hrow
 clear hx hrow e0 e1
 obtain ⟨q,hq,hqn,hq1,hq0⟩:∃q,q=Nat.min 1 n∧q≤n∧q≤1∧(q=0→n=0):=⟨Nat.min 1 n,rfl,Nat.min_le_right _ _,Nat.min_le_left _ _,fun h=>by
  have:Nat.min 1 n=1∨Nat.min 1 n=n:=by
   rcases Nat.le_total 1 n with a|a
   ·exact .inl (Nat.min_eq_left a)
   exact .inr (Nat.min_eq_right a)
  omega⟩
 obtain ⟨w2,hcp,hr2,hk2⟩:=kq (P:=Tryz.prog) (w.alloc (.cells (madeCells #[.int .i64 0] n) 3)) 45 45 3 3 w.heap.size 1 n 0 q n n 1 xc ⟨xb,xo,none⟩ 3 z jY QB
  (HR.out.congr fun i _=>by unfold kp;rw [if_neg (by omega)]) (by rw [←hq];simp) (fun j hj=>by
   have h1:=HX.out j (by omega)
   rw [Xp]
   exact (World.cell?_of_block (Below.heap_alloc w _ _ (q9 h1))).trans h1) (by omega)
 rw [←hq] at hcp
 have hgi:goInt (q:Nat) = .int .i64 (q:Int):=rfl
 rw [hgi] at hcp
 have HR2:=q8 hr2
 have HB2:Hid (Below w.heap.size w w2):=q8 (Below.trans ((Below.refl _ _).alloc (Nat.le_refl _) _) (hk2.below (by simp) (fun i hi=>by omega)))
 have HQ:=q8 hq
 clear hr2 hk2 hq HR HX hgi
 go_enter Tryz.func92,Tryz.ntmps92
 go_wp2_with fail
 refine (hbm _).mono ?_
 rintro e w' ⟨rfl,hw⟩
 rw [hw]
 clear hw
 go_wp2_with fail
 clear hcp hmk hbm
 go_loopw [8] (fun i wr=>∃m:Nat,m≤n∧(m=0→n=0)∧i = .int .i64 m∧wr.rowIs w.heap.size 3 n (kp z m)∧Below w.heap.size w wr) (fun i _=>n - (intOf i).toNat)
 case atStart=>exact ⟨q,hqn,hq0,rfl,by simpa using HR2.out,HB2.out⟩
 case round=>
  clear HR2 HB2 HQ hqn hq1 hq0
  obtain ⟨m,hm,hm0,rfl,hR,hb⟩:=hrel
  have HR:=q8 hR
  have HB:=q8 hb
  clear hR hb
  by_cases hlt:m<n
  rotate_left
  ·go_wp2
   go_ret
   obtain rfl:m=n:=by omega
   exact ⟨rfl,HR.out.congr fun i hi=>by unfold kp;rw [if_pos hi],HB.out⟩
  have hlt2:(m:Int)<n:=by omega
  have hm1:1≤m:=by omega
  obtain ⟨c,hc⟩:∃c,c=Nat.min m (n - m):=⟨_,rfl⟩
  have hc1:c≤m:=by rw [hc];exact Nat.min_le_left _ _
  have hc2:c≤n - m:=by rw [hc];exact Nat.min_le_right _ _
  have hc3:1≤c:=by rw [hc];exact Nat.le_min.2 ⟨hm1,by omega⟩
  have hne:¬ n=m:=by omega
  have hwr:IntKind.i64.wrap ((m:Int)+c)=(m:Int)+c:=by rw [IntKind.wrap_i64];omega
  have HC:=q8 hc
  clear hc
  go_wp2_with fail
  refine qz (S:=fun _=>True) (by kernel_rfl) 9 ?_
  refine tkZ 0 38 (.int .i64 m) rfl rfl trivial (fun w' h=>?_) ?_
  ·go_simp
  refine tkZ 1 39 (.slice (some ⟨w.heap.size,0,none⟩) n n) rfl rfl trivial (fun w' h=>?_) ?_
  ·go_simp
  refine tkZ 2 40 (.int .i64 m) rfl rfl trivial (fun w' h=>?_) ?_
  ·go_simp
  refine tkZ 3 41 (.slice (some ⟨w.heap.size,m,none⟩) (n - m) (n - m)) rfl rfl trivial (fun w' h=>?_) ?_
  ·go_simp
  refine tkZ 4 42 (.slice (some ⟨w.heap.size,0,none⟩) n n) rfl rfl trivial (fun w' h=>?_) ?_
  ·go_simp
  refine tkZ 5 43 (.int .i64 m) rfl rfl trivial (fun w' h=>?_) ?_
  ·go_simp
  refine tkZ 6 44 (.slice (some ⟨w.heap.size,0,none⟩) m n) rfl rfl trivial (fun w' h=>?_) ?_
  ·go_simp
  obtain ⟨w2,hcp,hr2,hk2⟩:=kq (P:=Tryz.prog) wr.drew 45 45 3 3 w.heap.size 1 n m c (n - m) (n - m) m n ⟨w.heap.size,0,none⟩ 3 z jY QB HR.out (by rw [←HC.out];simp) (fun j hj=>by
   rw [Xp,Nat.zero_add]
   rw [HR.out.drew.cell (i:=j) (by omega)]
   unfold kp
   rw [if_pos (by omega)]) (by omega)
  rw [←HC.out] at hcp
  refine qm (i:=7) (by kernel_rfl) (qC 45 (.int .i64 c) w2 rfl rfl rfl (exec_copy rfl (by go_simp) (by go_simp) hcp) trivial ?_)
  refine qm (i:=8) (by kernel_rfl) (qC 46 (.int .i64 ((m+c:Nat):Int)) w2 rfl rfl rfl (by go_simp) trivial ?_)
  refine qm (i:=9) (by kernel_rfl) (qC 8 (.int .i64 ((m+c:Nat):Int)) w2 rfl rfl rfl (by go_simp) trivial (qI (by kernel_rfl) ?_ _))
  show Exit.inBlock 1 _ Exit.normal _ _
  have HR3:=q8 hr2
  have HB3:Hid (Below w.heap.size w w2):=q8 (HB.out.trans ((Below.refl _ _).drew.trans (hk2.below (B:=w.heap.size) (by exact HB.out.size) (fun i hi=>by omega))))
  clear hr2 hk2 hcp
  refine ⟨⟨.int .i64 ((m+c:Nat):Int),.int .i64 m,.slice (some ⟨w.heap.size,0,none⟩) n n,.int .i64 n,.bool true,.int .i64 m,.slice (some ⟨w.heap.size,0,none⟩) n n,.int .i64 m,.slice (some ⟨w.heap.size,m,none⟩) (n - m) (n - m),.slice (some ⟨w.heap.size,0,none⟩) n n,.int .i64 m,.slice (some ⟨w.heap.size,0,none⟩) m n,.int .i64 c,.int .i64 ((m+c:Nat):Int),⟨m+c,by omega,by omega,rfl,HR3.out,HB3.out⟩,?_⟩,?_⟩
  ·go_simp
  go_simp
  simp [intOf];omega

end Go.Proofs.YtgjjhadbjmcnpaaGreatDoor
namespace Go.Proofs.YtgjjhadbjmcnpaaGreatDoor
open Go.RowKit

def qS (xs:List (Bool×Int)):List Value:=xs.flatMap fun x=>[.bool x.1,.int .i64 x.2]
theorem vC (x:Bool×Int) (xs:List (Bool×Int)):qS (x::xs) = .bool x.1::.int .i64 x.2::qS xs:=rfl
theorem kr (xs ys:List (Bool×Int)):qS (xs++ys)=qS xs++qS ys:=by simp [qS]
theorem zQ:∀xs:List (Bool×Int),(qS xs).length=xs.length*2
 | []=>rfl
 | x::xs=>by rw [vC,List.length_cons,List.length_cons,zQ xs,List.length_cons];omega
theorem kM:∀(xs:List (Bool×Int)) (k:Nat),qS (xs.take k)=(qS xs).take (k*2)
 | [],k=>by simp [qS]
 | x::xs,0=>by simp [qS]
 | x::xs,k+1=>by rw [List.take_succ_cons,vC,vC,kM xs k,show (k+1)*2=k*2+1+1 by omega,List.take_succ_cons,List.take_succ_cons]
theorem kN:∀(xs:List (Bool×Int)) (k:Nat),qS (xs.drop k)=(qS xs).drop (k*2)
 | [],k=>by simp [qS]
 | x::xs,0=>by simp [qS]
 | x::xs,k+1=>by rw [List.drop_succ_cons,vC,kN xs k,show (k+1)*2=k*2+1+1 by omega,List.drop_succ_cons,List.drop_succ_cons]
theorem ks:∀xs:List (Bool×Int),∀u∈qS xs,u.oneCell'=true:=by
 intro xs u hu
 obtain ⟨x,_,h⟩:=List.mem_flatMap.1 hu
 simp only [List.mem_cons,List.not_mem_nil,or_false] at h
 rcases h with rfl|rfl<;>rfl
theorem ZF:∀{xs:List (Bool×Int)} {cs:Nat→List Value},(∀i (h:i<xs.length),cs i=[.bool xs[i].1,.int .i64 xs[i].2])→(List.range xs.length).flatMap cs=qS xs
 | [],_,_=>rfl
 | x::xs,cs,h=>by
  rw [List.length_cons,List.range_succ_eq_map,List.flatMap_cons,h 0 (by simp)]
  have ih:=ZF (xs:=xs) (cs:=fun i=>cs (i+1)) fun i hi=>by
   have:=h (i+1) (by simpa using hi)
   simpa using this
  unfold List.flatMap at ih ⊢
  rw [List.map_map]
  rw [show (List.range xs.length).map (cs∘Nat.succ)=(List.range xs.length).map (fun i=>cs (i+1)) from rfl,ih]
  rfl

theorem SlO.row {w:World} {v:Value} {xs:List (Bool×Int)} {S:Blks} (h:SlO 44 2 vM w v xs S):w.ownsRow 0 44 2 v xs.length (qS xs)∧(∀x∈xs,I64 x.2)∧(∀g,v.ownBlock=some g→S g)∧InB w S:=by
 obtain ⟨cs,T,h⟩:=h
 refine ⟨?_,fun x hx=>?_,h.blk,h.inb⟩
 ·have:=h.own
  rwa [ZF fun i hi=>(h.el i hi).1] at this
 obtain ⟨i,hi,rfl⟩:=List.getElem_of_mem hx
 exact (h.el i hi).2
theorem SlO.ofRow {w:World} {v:Value} {xs:List (Bool×Int)} {S:Blks} (h:w.ownsRow 0 44 2 v xs.length (qS xs)) (hx:∀x∈xs,I64 x.2) (hv:∀g,v.ownBlock=some g→S g) (hS:InB w S):SlO 44 2 vM w v xs S:=by
 refine ⟨Qs xs,fun _ _=>False,⟨?_,fun _ _=>rfl,fun i _=>J8 xs i,fun i hi=>⟨?_,hx _ (List.getElem_mem hi)⟩,fun _ _ _ _ _ _ a _=>a,fun _ _ _ _ a=>a,hv,fun _ _ _ a=>a.elim,hS⟩⟩
 ·rw [ZF fun i hi=>by unfold Qs;simp [List.getD,hi]]
  exact h
 unfold Qs;simp [List.getD,hi]

def RowAt (w:World) (e:TypeId) (g cap size:Nat) (cur:Array Value):Prop:=w.heap[g]?=some (.cells cur e (0,0))∧cur.size=cap*size∧cap≤maxLen
theorem RowAt.put {w:World} {e:TypeId} {g cap size:Nat} {cur:Array Value} (h:RowAt w e g cap size cur) {l:List Value} (hl:l.length=cap*size):RowAt (w.setRow g l.toArray) e g cap size l.toArray:=⟨setRow_heap w g cur _ e _ h.1,by simpa using hl,h.2.2⟩
theorem RowAt.drew {w:World} {e:TypeId} {g cap size:Nat} {cur:Array Value} (h:RowAt w e g cap size cur):RowAt w.drew e g cap size cur:=h
theorem RowAt.own {w:World} {e:TypeId} {g cap size:Nat} {cur:Array Value} (h:RowAt w e g cap size cur) {n:Nat} {xs:List Value} (hn:n≤cap) (hl:xs.length=n*size) (hx:cur.toList.take (n*size)=xs):w.ownsRow 0 e size (.slice (some ⟨g,0,none⟩) n cap) n xs:=
 ⟨hl,.inr ⟨g,cap,cur,rfl,Nat.zero_le _,h.1,hn,h.2.2,h.2.1,hx⟩⟩
theorem RowAt.cell {w:World} {e:TypeId} {g cap size:Nat} {cur:Array Value} (h:RowAt w e g cap size cur) (j:Nat):w.cell? ⟨g,j,none⟩=cur[j]?:=cell_of_row w g j cur e (0,0) h.1
theorem RowAt.keep {w:World} {e:TypeId} {g cap size:Nat} {cur:Array Value} (_h:RowAt w e g cap size cur) (r:Array Value):Kept (fun k=>k=g) w (w.setRow g r):=⟨rfl,rfl,rfl,by simp [World.setRow],fun k _ hk=>setRow_other w g k _ hk⟩

section
variable {P : Program}
theorem step_append_row {ops:Array Oper} {o:Oper} {a:Act} {w:World} {K:Act→World→Prop} {Q:Exit→Act→World→Prop} {E:Prop}
  (hg:o.guard=none) (s x:Operand) (t:TypeId) (hop:o.op=Op.call { callee:=Callee.builtin Builtin.append,args:=#[s,x],argTypes:=#[t,t] })
  (e:TypeId) (i:TypeInfo) (size:Nat) (ht:P.underlying t=some (.slice e)) (hi:P.info? e=some i) (hsz:i.size=size)
  (g n cap:Nat) (cur:Array Value) (hs:a.eval s = .slice (some ⟨g,0,none⟩) n cap) (hr:RowAt w e g cap size cur)
  (ad:Addr) (m c:Nat) (news:List Value) (hx:a.eval x = .slice (some ad) m c) (hn:news.length=m*size) (hc:∀j u,news[j]?=some u→w.cell? (ad.add j)=some u) (h1c:∀u∈news,u.oneCell'=true)
  (hroom:n+m≤cap)
  (hK:K (a.put o.dst (.slice (some ⟨g,0,none⟩) (n+m) cap)) (w.setRow g (cur.toList.take (n*size)++news++cur.toList.drop (n*size+news.length)).toArray)) :
  if Region.wanted o (yielded ops a.tmps)=true then Oper.wp P o a w K Q else E:=by
 have hw:Region.wanted o (yielded ops a.tmps)=true:=by simp [Region.wanted,hg]
 rw [if_pos hw]
 subst hsz
 have hfit:n*i.size+news.length≤cur.size:=by rw [hn,hr.2.1,←Nat.add_mul];exact Nat.mul_le_mul_right _ hroom
 have hrun:=run_append_room (P:=P) w t o.type e i ht hi g n cap cur hr.1 ad m c news hn hc h1c hroom hfit
 unfold Oper.wp execOp
 simp only [hop,resolve,invoke,builtin,Sem.run_bind,Sem.run_pure,Result.andThen_ok,List.map_toArray,List.map_cons,List.map_nil,hs,hx,hrun]
 exact hK
theorem run_clear_row (w:World) (t e ty:TypeId) (z:Value) (size:Nat) (ht:P.underlying t=some (.slice e)) (hv:∀w,(zeroValue e).run P w = .ok z w) (hz:z.cells.size=size) (h1:∀u∈z.cells.toList,u.oneCell'=true) (g o c:Nat) (cap:Nat) (cur:Array Value) (hr:RowAt w e g cap size cur) (hf:o+size≤cur.size) :
  (Builtin.clear_ #[t] ty #[.slice (some ⟨g,o,none⟩) 1 c]).run P w = .ok (.tuple #[]) (w.setRow g (cur.toList.take o++z.cells.toList++cur.toList.drop (o+size)).toArray):=by
 have hzc:(Builtin.zeroCells z.cells 1).toList=z.cells.toList:=by
  unfold Builtin.zeroCells
  apply List.ext_getElem
  ·simp
  intro i h1 h2
  have h3:i<z.cells.size:=by simpa using h2
  simp [Nat.mod_eq_of_lt h3,getElem!_pos z.cells i h3]
 have hl:z.cells.toList.length=size:=by rw [Array.length_toList,hz]
 have hst:=run_storeCells_at P g o e z.cells.toList 0 cur w hr.1 (by rw [Nat.add_zero,hl];exact hf) h1
 simp only [Nat.add_zero,hl] at hst
 simp [Builtin.clear_,run_underlying ht,hv,hzc,hst]
end
end Go.Proofs.YtgjjhadbjmcnpaaGreatDoor
namespace Go.Proofs.YtgjjhadbjmcnpaaGreatDoor
open Go.RowKit Go.Shelf Go.Lib Go.Sort

theorem Xq {w:World} {g q:Nat} {d:Array Int}:w.grownBy (putRow (Value.int .i64) (Sort.ahead w q) g 0 d) (some g):=by
 refine ⟨rfl,rfl,rfl,by simp [putRow,mapBlock,Sort.ahead],fun k _ hne=>?_⟩
 have:g≠k:=fun e=>hne (by rw [e])
 simp [putRow,mapBlock,Sort.ahead,Array.getElem?_modify,this]
end Go.Proofs.YtgjjhadbjmcnpaaGreatDoor
namespace Go.Proofs.YtgjjhadbjmcnpaaGreatDoor
open Go.RowKit Go.Shelf
attribute [local go_sem] Oper.semAt_some

structure BackSh (X:Nat) (p:Option Addr) (c:Nat) (xs:List Int) (W:World):Prop where
 box:W.cell? ⟨X,0,none⟩=some (.slice p xs.length c)
 el:∀i (h:i<xs.length),∃b o,p=some ⟨b,o,none⟩∧W.cell? ⟨b,o+i,none⟩=some (.int .i64 xs[i])
theorem BackSh.other {X c:Nat} {p:Option Addr} {xs:List Int} {W W':World} (h:BackSh X p c xs W) (hk:∀b o v,W.cell? ⟨b,o,none⟩=some v→(b=X∨∃o,p=some ⟨b,o,none⟩)→W'.cell? ⟨b,o,none⟩=some v):BackSh X p c xs W':=
 ⟨hk _ _ _ h.box (.inl rfl),fun i hi=>by
  obtain ⟨b,o,hp,hc⟩:=h.el i hi
  exact ⟨b,o,hp,hk _ _ _ hc (.inr ⟨o,hp⟩)⟩⟩
theorem BackSh.putObj {X c:Nat} {p:Option Addr} {xs:List Int} {W:World} (h:BackSh X p c xs W) {l:Nat} {o:Obj} (o':Obj) (hl:W.heap[l]?=some o) (ho:o.isCells=false):BackSh X p c xs (W.putObj l o'):=
 h.other fun b o v hc _=>by
  have hne:b≠l:=jh hl ho hc
  exact (World.cell?_of_block (a:=⟨b,o,none⟩) (World.putObj_heap_other (by omega))).trans hc
theorem own_back {X c:Nat} {p:Option Addr} {xs:List Int} {B:Nat}:OwnFrom B (fun (_:Nat) W=>BackSh X p c xs W):=fun s W W' row hs hg hr=>
 hs.other fun b o v hc _=>(World.cell?_of_block (a:=⟨b,o,none⟩) (hg.block b (q9 hc) (fun e=>by
  obtain ⟨_,x,hx,hn⟩:=hr b e.symm
  exact jh hx hn hc rfl))).trans hc

def JZ (xs:List Int) (i:Nat):Array Value:=#[.int .i64 ((xs.length - 1 - i:Nat):Int),.int .i64 (xs.getD (xs.length - 1 - i) 0)]

theorem Xr (p:Option Addr) (n c:Nat) (w:World) :
  Calls Tryz.prog 111 #[.slice p n c] w fun e w'=>e = .returned (.func (.func 126) #[] #[.pointer (some ⟨w.heap.size,0,none⟩)])∧w'=w.alloc (.cells #[.slice p n c] 45):=by
 go_enter Tryz.func111,Tryz.ntmps111
 go_wp2
 go_ret
 exact ⟨rfl,rfl⟩

theorem back_at (F:Fence) (n:Nat) (hF:F.fn 126) (hro:F.round=none) (hn:1≤n) (X c:Nat) (p:Option Addr) (xs:List Int) (w:World) (hl:xs.length≤140737488355328) (hsh:BackSh X p c xs w) :
  SeqAt F n Tryz.prog 126 #[.pointer (some ⟨X,0,none⟩)] (JZ xs) xs.length (fun W W'=>BackSh X p c xs W→BackSh X p c xs W') w:=by
 intro l J Jx W hW _ _ hY h0
 have HS:=q8 (hsh.other (W':=W) fun b o v hc _=>(hW.cell (p:=⟨b,o,none⟩) (q9 hc)).trans hc)
 have HY:=q8 hY
 clear hsh hY hW
 refine callsIn_of_wp Tryz.func126 rfl hF ?_ hro
 simp only [Tryz.ntmps126,List.size_toArray,List.length_cons,List.length_nil,Nat.reduceAdd,Nat.reduceSub,Array.replicate_succ,Array.replicate_zero,List.push_toArray,List.append_toArray,List.nil_append,List.cons_append]
 have cb:=HS.out.box
 gi_wp2
 gi_loopw [3] (fun i wr=>∃m:Nat,m≤xs.length∧i = .int .i64 ((xs.length:Int) - 1 - m)∧J m wr∧BackSh X p c xs wr) (fun i _=>(intOf i+1).toNat)
 case atStart=>exact ⟨0,by omega,by simp,h0,HS.out⟩
 case round=>
  clear cb
  obtain ⟨m,hm,rfl,hJ,hK⟩:=hrel
  have cb:=hK.box
  have HK:=q8 hK
  clear hK
  by_cases hlt:m<xs.length
  rotate_left
  ·obtain rfl:m=xs.length:=by omega
   gi_wp2
   go_end0
   exact ⟨⟨_,rfl⟩,.inl hJ⟩
  have hk:xs.length - 1 - m<xs.length:=by omega
  obtain ⟨b,o,rfl,e1⟩:=HK.out.el _ hk
  have hj:(xs.length:Int) - 1 - m=((xs.length - 1 - m:Nat):Int):=by omega
  obtain ⟨fn,tmps,assign,body,hy,hR⟩:=HY.out _ wr hlt hJ
  have he:JZ xs m=#[.int .i64 ((xs.length - 1 - m:Nat):Int),.int .i64 (xs[xs.length - 1 - m])]:=by
   unfold JZ
   rw [List.getD_eq_getElem?_getD,List.getElem?_eq_getElem hk]
   rfl
  rw [he] at hy
  rw [hj]
  generalize hkk:xs.length - 1 - m=k at *
  have HKK:=q8 hkk
  have HR:=q8 hR
  clear hR he hj hkk
  gi_wp2
  refine HR.out.mono ?_
  rintro e W3 (⟨rfl,hJ3,hk3⟩|⟨rfl,hJx3⟩)
  ·have HK3:=q8 (hk3 HK.out)
   clear hk3
   gi_wp2
   go_roundw
   case rel=>exact ⟨m+1,by omega,by have:=HKK.out;congr 1;omega,hJ3,HK3.out⟩
   case measure=>simp [intOf]
  gi_wp2
  refine bodyPost_ret (results_none rfl _ _ _) rfl ?_
  exact ⟨⟨_,rfl⟩,.inr ⟨_,hlt,hJx3⟩⟩
end Go.Proofs.YtgjjhadbjmcnpaaGreatDoor
namespace Go.Proofs.YtgjjhadbjmcnpaaGreatDoor
open Go.RowKit Go.Shelf

def QY (Ds:List Nat):List Deferred:=Ds.map fun D=>{ target:=.collected D,args:=#[] }
theorem zS {F:Fence} {n:Nat} {P:Program} {fn:Func} {tmps:Array Value} {R:Ending→World→Prop} (B:Nat):∀(Ds:List Nat) (w:World),Ds.Nodup→(∀D∈Ds,B≤D∧w.heap[D]?=some (.deferred (some [])))→
  (∀w',w'.os=w.os→w'.tape=w.tape→w'.output=w.output→w.heap.size≤w'.heap.size→(∀k,k∉Ds→w'.heap[k]?=w.heap[k]?)→∃v,(results fn tmps).run P w' = .ok v w'∧R (.returned v) w')→LeavesInM F n P fn tmps R (QY Ds) .returning w
 | [],w,_,_,h=>h w rfl rfl rfl (Nat.le_refl _) (fun _ _=>rfl)
 | D::Ds,w,hn,hD,h=>by
  obtain ⟨hn1,hn2⟩:=List.nodup_cons.1 hn
  refine ⟨by simp,.inl ⟨D,_,rfl,run_takeDeferred (hD D List.mem_cons_self).2,?_⟩⟩
  refine zS B Ds _ hn2 (fun E hE=>?_) (fun w' h1 h2 h3 h4 h5=>?_)
  ·obtain ⟨a,b⟩:=hD E (List.mem_cons_of_mem _ hE)
   exact ⟨a,(World.putObj_heap_other (fun e=>hn1 (by rw [←e];exact hE))).trans b⟩
  refine h w' h1 h2 h3 (by simpa using h4) (fun k hk=>?_)
  rw [h5 k (fun hh=>hk (List.mem_cons_of_mem _ hh))]
  exact World.putObj_heap_other (fun e=>hk (by rw [e];exact List.mem_cons_self))
attribute [local go_sem] Oper.semAt_some

theorem infoInt3:(Tryz.prog.info? 3).map (fun i=>(i.zero,i.size,i.bytes))=some (some (.int .i64 0),1,8):=by kernel_rfl
theorem VH:Tryz.prog.underlying 45=some (.slice 3):=by kernel_rfl
end Go.Proofs.YtgjjhadbjmcnpaaGreatDoor
namespace Go.Proofs.YtgjjhadbjmcnpaaGreatDoor
open Go.RowKit Go.Lib

theorem ChkOk.ins {u:UniL} (h:ChkOk u) {k:Nat} (hk:k<u.funcs.length):∀i∈allIns u.funcs[k],insL u u.funcs[k] i=0:=by
 intro i hi
 have hb:=h.body k hk
 unfold kH at hb
 rw [List.getElem?_eq_getElem hk] at hb
 simp only at hb
 unfold jL at hb
 split at hb
 ·obtain ⟨b,hbm,him⟩:=List.mem_flatMap.1 hi
  obtain ⟨j,hj,rfl⟩:=List.getElem_of_mem hbm
  have hbj:=xl hb (XY u u.funcs[k] j) (List.mem_map.2 ⟨j,List.mem_range.2 hj,rfl⟩)
  unfold XY at hbj
  rw [List.getElem?_eq_getElem hj] at hbj
  simp only at hbj
  unfold blkE at hbj
  split at hbj
  ·exact xl hbj _ (List.mem_map.2 ⟨i,him,rfl⟩)
  rename_i hne
  exact absurd hbj hne
 rename_i hne
 exact absurd hb hne
end Go.Proofs.YtgjjhadbjmcnpaaGreatDoor
namespace Go.Proofs.YtgjjhadbjmcnpaaGreatDoor

def xn (n:Nat) (had:Nat→Bool):Nat:=((List.range n).filter fun j=>!had j).length
theorem k7 {p q:Nat→Bool}:∀(l:List Nat),(∀x∈l,p x=true→q x=true)→(l.filter p).length≤(l.filter q).length
 | [],_=>by simp
 | a::l,h=>by
  have ih:=k7 l (fun x hx=>h x (List.mem_cons_of_mem _ hx))
  have ha:=h a List.mem_cons_self
  by_cases hp:p a=true
  ·rw [List.filter_cons_of_pos hp,List.filter_cons_of_pos (ha hp)]
   simpa using ih
  rw [List.filter_cons_of_neg hp]
  by_cases hq:q a=true
  ·rw [List.filter_cons_of_pos hq];simp;omega
  rw [List.filter_cons_of_neg hq];exact ih
theorem QC {p q:Nat→Bool} {k:Nat}:∀(l:List Nat),(∀x∈l,p x=true→q x=true)→k∈l→p k=false→q k=true→(l.filter p).length<(l.filter q).length
 | [],_,h,_,_=>by cases h
 | a::l,h,hk,h1,h2=>by
  have ha:=h a List.mem_cons_self
  rcases List.mem_cons.1 hk with e|hk2
  ·subst e
   have ih:=k7 l (fun x hx=>h x (List.mem_cons_of_mem _ hx))
   rw [List.filter_cons_of_neg (by simp [h1]),List.filter_cons_of_pos h2]
   simp;omega
  have ih:=QC l (fun x hx=>h x (List.mem_cons_of_mem _ hx)) hk2 h1 h2
  by_cases hp:p a=true
  ·rw [List.filter_cons_of_pos hp,List.filter_cons_of_pos (ha hp)]
   simpa using ih
  rw [List.filter_cons_of_neg hp]
  by_cases hq:q a=true
  ·rw [List.filter_cons_of_pos hq];simp;omega
  rw [List.filter_cons_of_neg hq];exact ih
theorem kO {n:Nat} {p q:Nat→Bool} (h:∀j,p j=true→q j=true):xn n q≤xn n p:=
 k7 _ fun x _ hx=>by
  cases hp:p x with
  | false=>rfl
  | true=>rw [h x hp] at hx;cases hx
theorem VI {n k:Nat} {p q:Nat→Bool} (h:∀j,p j=true→q j=true) (hk:k<n) (h1:p k=false) (h2:q k=true):xn n q<xn n p:=by
 refine QC (k:=k) _ (fun x _ hx=>?_) (List.mem_range.2 hk) (by simp [h2]) (by simp [h1])
 cases hp:p x with
 | false=>rfl
 | true=>rw [h x hp] at hx;cases hx

end Go.Proofs.YtgjjhadbjmcnpaaGreatDoor
namespace Go.Proofs.YtgjjhadbjmcnpaaGreatDoor
open Go.RowKit Go.Shelf

abbrev PostS:=(Nat→Bool)×List Int
def zW (rec:Nat→PostS→PostS) (s:PostS) (t:Int):PostS:=if s.1 t.toNat then s else rec t.toNat s
def zY (rec:Nat→PostS→PostS) (xs:List Int) (s:PostS):Nat→PostS
 | 0=>s
 | i+1=>zW rec (zY rec xs s i) (xs.getD (xs.length - 1 - i) 0)
def xh (b:Nat) (s:PostS):PostS:=(fun j=>if j=b then true else s.1 j,s.2)
def jy (tos:Nat→List Int):Nat→Nat→PostS→PostS
 | 0,_,s=>s
 | c+1,b,s=>((zY (jy tos c) (tos b) (xh b s) (tos b).length).1,(zY (jy tos c) (tos b) (xh b s) (tos b).length).2++[(b:Int)])

theorem ZG {b:Nat} {s:PostS} {j:Nat} (h:s.1 j=true):(xh b s).1 j=true:=by
 show (if j=b then true else s.1 j)=true
 split
 ·rfl
 exact h
theorem jw {n b:Nat} {s:PostS} (hb:b<n) (h:s.1 b=false):xn n (xh b s).1<xn n s.1:=
 VI (fun _=>ZG) hb h (by show (if b=b then true else _)=true;simp)

structure VisOk (n:Nat) (s s':PostS):Prop where
 up:∀j,s.1 j=true→s'.1 j=true
 many:s'.2.length+xn n s'.1≤s.2.length+xn n s.1
theorem VisOk.refl (n:Nat) (s:PostS):VisOk n s s:=⟨fun _ h=>h,Nat.le_refl _⟩
theorem VisOk.trans {n:Nat} {a b c:PostS} (h:VisOk n a b) (k:VisOk n b c):VisOk n a c:=⟨fun j e=>k.up j (h.up j e),Nat.le_trans k.many h.many⟩

theorem Qf {n:Nat} {rec:Nat→PostS→PostS} {xs:List Int} (hx:∀x∈xs,0≤x∧x<(n:Int)) {s:PostS} (h:∀b s',b<n→s'.1 b=false→VisOk n s s'→VisOk n s' (rec b s')):∀i,i≤xs.length→VisOk n s (zY rec xs s i)
 | 0,_=>VisOk.refl _ _
 | i+1,hi=>by
  have ih:=Qf hx h i (by omega)
  show VisOk n s (zW rec (zY rec xs s i) (xs.getD (xs.length - 1 - i) 0))
  unfold zW
  have hk:xs.length - 1 - i<xs.length:=by omega
  have hm:=hx _ (List.getElem_mem hk)
  rw [List.getD_eq_getElem?_getD,List.getElem?_eq_getElem hk]
  cases e:(zY rec xs s i).1 (xs[xs.length - 1 - i]).toNat
  ·rw [show ((some xs[xs.length - 1 - i]).getD 0)=xs[xs.length - 1 - i] from rfl,e]
   exact ih.trans (h _ _ (by omega) e ih)
  rw [show ((some xs[xs.length - 1 - i]).getD 0)=xs[xs.length - 1 - i] from rfl,e]
  exact ih
theorem Ji {n:Nat} {tos:Nat→List Int} (hT:∀b,b<n→∀x∈tos b,0≤x∧x<(n:Int)):∀(c b:Nat) (s:PostS),b<n→s.1 b=false→VisOk n s (jy tos c b s)
 | 0,_,s,_,_=>VisOk.refl n s
 | c+1,b,s,hb,h=>by
  have h1:=jw (n:=n) hb h
  have h2:=Qf (n:=n) (rec:=jy tos c) (xs:=tos b) (hT b hb) (s:=xh b s) (fun b' s' hb' h' _=>Ji hT c b' s' hb' h') (tos b).length (Nat.le_refl _)
  refine ⟨fun j e=>h2.up j (ZG e),?_⟩
  have h3:=h2.many
  have h4:(xh b s).2=s.2:=rfl
  rw [h4] at h3
  show ((zY (jy tos c) (tos b) (xh b s) (tos b).length).2++[(b:Int)]).length+_≤_
  rw [List.length_append]
  show _+1+xn n (zY (jy tos c) (tos b) (xh b s) (tos b).length).1≤_
  omega

structure PostM (W:World) (V L n B:Nat) (tb ti:TypeId) (tl:TypeId) (lv:Value) (s:PostS):Prop where
 seen:W.rowIs V tb n (fun j=>.bool (s.1 j))
 var:W.heap[L]?=some (.cells #[lv] tl (0,0))
 own:W.ownsRow B ti 1 lv s.2.length (s.2.map (.int .i64))
structure PostI (W0:World) (lv0:Value) (V L n B:Nat) (tb ti tl:TypeId) (lv:Value) (s:PostS) (W:World):Prop where
 st:PostM W V L n B tb ti tl lv s
 kept:Kept (fun k=>k=V∨k=L∨some k=lv0.ownBlock) W0 W
 blk:lv.ownBlock=lv0.ownBlock∨∃k,lv.ownBlock=some k∧W0.heap.size≤k

theorem PostI.trans {W0 W1 W2:World} {lv0 lv1 lv2:Value} {V L n B:Nat} {tb ti tl:TypeId} {s1 s2:PostS} (h:PostI W0 lv0 V L n B tb ti tl lv1 s1 W1) (k:PostI W1 lv1 V L n B tb ti tl lv2 s2 W2):PostI W0 lv0 V L n B tb ti tl lv2 s2 W2 where
 st:=k.st
 kept:=h.kept.trans k.kept fun i hi hS=>by
  rcases hS with e|e|e
  ·exact .inl e
  ·exact .inr (.inl e)
  rcases h.blk with g|⟨q,g,hq⟩
  ·exact .inr (.inr (e.trans g))
  rw [g] at e;injection e with e;omega
 blk:=by
  rcases k.blk with g|⟨q,g,hq⟩
  ·rcases h.blk with g2|⟨q,g2,hq⟩
   ·exact .inl (g.trans g2)
   exact .inr ⟨q,g.trans g2,hq⟩
  exact .inr ⟨q,g,Nat.le_trans h.kept.size hq⟩
theorem PostI.base {w1 W0 W:World} {lv0 lv:Value} {V L n B:Nat} {tb ti tl:TypeId} {s s0:PostS} (h:PostI W0 lv0 V L n B tb ti tl lv s W) (h0:PostM W0 V L n B tb ti tl lv0 s0) (hB:w1.heap.size≤B) (hk:Kept (fun k=>k=V∨k=L) w1 W0):Kept (fun k=>k=V∨k=L) w1 W:=
 hk.trans h.kept fun i hi hS=>by
  rcases hS with e|e|e
  ·exact .inl e
  ·exact .inr e
  have:=(h0.own.lt i e.symm).1
  omega
theorem PostM.grown {W W':World} {V L n B:Nat} {tb ti tl:TypeId} {lv:Value} {s:PostS} {row:Option Nat} (h:PostM W V L n B tb ti tl lv s) (hg:W.grownBy W' row) (hr:∀r,row=some r→∃o:Obj,W.heap[r]?=some o∧o.isCells=false):PostM W' V L n B tb ti tl lv s where
 seen:=h.seen.of_block (hg.block V h.seen.lt (fun e=>by
  obtain ⟨o,ho,hc⟩:=hr V e.symm
  obtain ⟨cs,hcs⟩:=h.seen
  rw [hcs.1] at ho
  cases ho;cases hc))
 var:=(hg.block L (Array.getElem?_eq_some_iff.1 h.var).1 (fun e=>by
  obtain ⟨o,ho,hc⟩:=hr L e.symm
  rw [h.var] at ho
  cases ho;cases hc)).trans h.var
 own:=h.own.kept hg (by
  rcases h.own.2 with ⟨hv,_⟩|⟨g,cap,cur,hv,_,hh,_⟩
  ·rw [hv];exact .inl rfl
  right
  rw [hv]
  intro e
  obtain ⟨o,ho,hc⟩:=hr g e.symm
  rw [hh] at ho
  cases ho;cases hc)
theorem V0 {W0:World} {lv0:Value} {V L n B B':Nat} {tb ti tl:TypeId} (hB:W0.heap.size≤B') (g:Nat→PostS):OwnFrom B' (fun i W=>∃lv,PostI W0 lv0 V L n B tb ti tl lv (g i) W):=by
 rintro s W W' row ⟨lv,h⟩ hg hr
 refine ⟨lv,h.st.grown hg (fun r e=>(hr r e).2),?_,h.blk⟩
 exact ⟨hg.os.trans h.kept.os,hg.tape.trans h.kept.tape,hg.output.trans h.kept.output,Nat.le_trans h.kept.size hg.size,fun k hk hn=>(hg.block k (Nat.lt_of_lt_of_le hk h.kept.size) (fun e=>by have:=(hr k e.symm).1;omega)).trans (h.kept.block k hk hn)⟩
theorem PostM.loc {W W':World} {V L n B:Nat} {tb ti tl:TypeId} {lv:Value} {s:PostS} (h:PostM W V L n B tb ti tl lv s) (hb:Below W.heap.size W W'):PostM W' V L n B tb ti tl lv s:=
 ⟨h.seen.of_block (hb.block V h.seen.lt),(hb.block L (Array.getElem?_eq_some_iff.1 h.var).1).trans h.var,vR h.own hb⟩
theorem PostI.here {W:World} {V L n B:Nat} {tb ti tl:TypeId} {lv:Value} {s:PostS} (h:PostM W V L n B tb ti tl lv s):PostI W lv V L n B tb ti tl lv s W:=⟨h,Kept.refl _ _,.inl rfl⟩
theorem PostI.below {W0 W W':World} {lv0:Value} {V L n B:Nat} {tb ti tl:TypeId} {lv:Value} {s:PostS} (h:PostI W0 lv0 V L n B tb ti tl lv s W) (hb:Below W.heap.size W W'):PostI W0 lv0 V L n B tb ti tl lv s W':=
 h.trans ⟨h.st.loc hb,Kept.of_below hb,.inl rfl⟩
end Go.Proofs.YtgjjhadbjmcnpaaGreatDoor
