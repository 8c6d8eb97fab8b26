/-
  The contracts of slices.Clone at phis, instructions, blocks, functions and globals: the sa
-/
import Derived.Test.YtbnnhmcloecijaaGreatDoorJRepA
import Derived.Lib.OwnBridge
import Derived.Sort.OwnSortedInts
import Derived.Shelf.Sort.Plain
import Derived.Shelf.Slices.CompactI
import Derived.Shelf.Slices.In.SortNone
import Derived.Shelf.SlicesE.DeleteFunc
import Derived.Shelf.RegionOpenPlain
import Derived.Deep.RegionLaw
import Derived.Lib.SliceRun
set_option maxRecDepth 100000
set_option maxHeartbeats 16000000
namespace Go.Proofs.YtbnnhmcloecijaaGreatDoor
open Go.RowKit

def qW (xs:List (Bool×Int)):List Value:=xs.flatMap fun x=>[.bool x.1,.int .i64 x.2]
theorem kQ (x:Bool×Int) (xs:List (Bool×Int)):qW (x::xs) = .bool x.1::.int .i64 x.2::qW xs:=rfl
theorem QA (xs ys:List (Bool×Int)):qW (xs++ys)=qW xs++qW ys:=by simp [qW]
theorem xk:∀xs:List (Bool×Int),(qW xs).length=xs.length*2
 | []=>rfl
 | x::xs=>by rw [kQ,yi,yi,xk xs,yi];omega
theorem QU:∀(xs:List (Bool×Int)) (k:Nat),qW (xs.take k)=(qW xs).take (k*2)
 | [],k=>by simp [qW]
 | x::xs,0=>by simp [qW]
 | x::xs,k+1=>by rw [List.take_succ_cons,kQ,kQ,QU xs k,show (k+1)*2=k*2+1+1 by omega,List.take_succ_cons,List.take_succ_cons]
theorem QV:∀(xs:List (Bool×Int)) (k:Nat),qW (xs.drop k)=(qW xs).drop (k*2)
 | [],k=>by simp [qW]
 | x::xs,0=>by simp [qW]
 | x::xs,k+1=>by rw [List.drop_succ_cons,kQ,QV xs k,show (k+1)*2=k*2+1+1 by omega,List.drop_succ_cons,List.drop_succ_cons]
theorem QB:∀xs:List (Bool×Int),∀u∈qW xs,u.oneCell'=true:=by
 intro xs u hu
 obtain ⟨x,_,h⟩:=yU.1 hu
 simp only [yC,yG,yl] at h
 rcases h with rfl|rfl<;>rfl
theorem Jl:∀{xs:List (Bool×Int)} {cs:Nat→List Value},(∀i (h:i<xs.length),cs i=[.bool xs[i].1,.int .i64 xs[i].2])→(List.range xs.length).flatMap cs=qW xs
 | [],_,_=>rfl
 | x::xs,cs,h=>by
  rw [yi,List.range_succ_eq_map,List.flatMap_cons,h 0 (by simp)]
  have ih:=Jl (xs:=xs) (cs:=fun i=>cs (i+1)) fun i hi=>by
   have:=h (i+1) (by simpa using hi)
   simpa using this
  unfold List.flatMap at ih ⊢
  rw [yy]
  rw [show (List.range xs.length).map (cs∘Nat.succ)=(List.range xs.length).map (fun i=>cs (i+1)) from rfl,ih]
  rfl

theorem SlO.row {w:World} {v:Value} {xs:List (Bool×Int)} {S:Blks} (h:SlO 40 2 Ke w v xs S):w.ownsRow 0 40 2 v xs.length (qW xs)∧(∀x∈xs,I64 x.2)∧(∀g,v.ownBlock=some g→S g)∧InB w S:=by
 obtain ⟨cs,T,h⟩:=h
 refine ⟨?_,fun x hx=>?_,h.blk,h.inb⟩
 ·have:=h.own
  rwa [Jl fun i hi=>(h.el i hi).1] at this
 obtain ⟨i,hi,rfl⟩:=yX hx
 exact (h.el i hi).2
theorem SlO.ofRow {w:World} {v:Value} {xs:List (Bool×Int)} {S:Blks} (h:w.ownsRow 0 40 2 v xs.length (qW xs)) (hx:∀x∈xs,I64 x.2) (hv:∀g,v.ownBlock=some g→S g) (hS:InB w S):SlO 40 2 Ke w v xs S:=by
 refine ⟨ZR xs,fun _ _=>False,⟨?_,fun _ _=>rfl,fun i _=>Kf xs i,fun i hi=>⟨?_,hx _ (zP hi)⟩,fun _ _ _ _ _ _ a _=>a,fun _ _ _ _ a=>a,hv,fun _ _ _ a=>a.elim,hS⟩⟩
 ·rw [Jl fun i hi=>by unfold ZR;simp [List.getD,hi]]
  exact h
 unfold ZR;simp [List.getD,hi]

def RowAt (w:World) (e:TypeId) (g cap size:Nat) (cur:Array Value):Prop:=w.heap[g]?=some (.cells cur e (0,0))∧cur.size=cap*size∧cap≤maxLen
theorem RowAt.put {w:World} {e:TypeId} {g cap size:Nat} {cur:Array Value} (h:RowAt w e g cap size cur) {l:List Value} (hl:l.length=cap*size):RowAt (w.setRow g l.toArray) e g cap size l.toArray:=⟨setRow_heap w g cur _ e _ h.1,by simpa using hl,h.2.2⟩
theorem RowAt.drew {w:World} {e:TypeId} {g cap size:Nat} {cur:Array Value} (h:RowAt w e g cap size cur):RowAt w.drew e g cap size cur:=h
theorem RowAt.own {w:World} {e:TypeId} {g cap size:Nat} {cur:Array Value} (h:RowAt w e g cap size cur) {n:Nat} {xs:List Value} (hn:n≤cap) (hl:xs.length=n*size) (hx:cur.toList.take (n*size)=xs):w.ownsRow 0 e size (.slice (some ⟨g,0,none⟩) n cap) n xs:=
 ⟨hl,.inr ⟨g,cap,cur,rfl,Nat.zero_le _,h.1,hn,h.2.2,h.2.1,hx⟩⟩
theorem RowAt.cell {w:World} {e:TypeId} {g cap size:Nat} {cur:Array Value} (h:RowAt w e g cap size cur) (j:Nat):w.cell? ⟨g,j,none⟩=cur[j]?:=cell_of_row w g j cur e (0,0) h.1
theorem RowAt.keep {w:World} {e:TypeId} {g cap size:Nat} {cur:Array Value} (_h:RowAt w e g cap size cur) (r:Array Value):Kept (fun k=>k=g) w (w.setRow g r):=⟨rfl,rfl,rfl,by simp [World.setRow],fun k _ hk=>setRow_other w g k _ hk⟩

section
variable {P : Program}
theorem step_append_row {ops:Array Oper} {o:Oper} {a:Act} {w:World} {K:Act→World→Prop} {Q:Exit→Act→World→Prop} {E:Prop}
  (hg:o.guard=none) (s x:Operand) (t:TypeId) (hop:o.op=Op.call { callee:=Callee.builtin Builtin.append,args:=#[s,x],argTypes:=#[t,t] })
  (e:TypeId) (i:TypeInfo) (size:Nat) (ht:P.underlying t=some (.slice e)) (hi:P.info? e=some i) (hsz:i.size=size)
  (g n cap:Nat) (cur:Array Value) (hs:a.eval s = .slice (some ⟨g,0,none⟩) n cap) (hr:RowAt w e g cap size cur)
  (ad:Addr) (m c:Nat) (news:List Value) (hx:a.eval x = .slice (some ad) m c) (hn:news.length=m*size) (hc:∀j u,news[j]?=some u→w.cell? (ad.add j)=some u) (h1c:∀u∈news,u.oneCell'=true)
  (hroom:n+m≤cap)
  (hK:K (a.put o.dst (.slice (some ⟨g,0,none⟩) (n+m) cap)) (w.setRow g (cur.toList.take (n*size)++news++cur.toList.drop (n*size+news.length)).toArray)) :
  if Region.wanted o (yielded ops a.tmps)=true then Oper.wp P o a w K Q else E:=by
 have hw:Region.wanted o (yielded ops a.tmps)=true:=by simp [Region.wanted,hg]
 rw [zZ hw]
 subst hsz
 have hfit:n*i.size+news.length≤cur.size:=by rw [hn,hr.2.1,←Nat.add_mul];exact ye _ hroom
 have hrun:=run_append_room (P:=P) w t o.type e i ht hi g n cap cur hr.1 ad m c news hn hc h1c hroom hfit
 unfold Oper.wp execOp
 simp only [hop,resolve,invoke,builtin,Sem.run_bind,Sem.run_pure,Result.andThen_ok,List.map_toArray,yS,yw,hs,hx,hrun]
 exact hK
theorem run_clear_row (w:World) (t e ty:TypeId) (z:Value) (size:Nat) (ht:P.underlying t=some (.slice e)) (hv:∀w,(zeroValue e).run P w = .ok z w) (hz:z.cells.size=size) (h1:∀u∈z.cells.toList,u.oneCell'=true) (g o c:Nat) (cap:Nat) (cur:Array Value) (hr:RowAt w e g cap size cur) (hf:o+size≤cur.size) :
  (Builtin.clear_ #[t] ty #[.slice (some ⟨g,o,none⟩) 1 c]).run P w = .ok (.tuple #[]) (w.setRow g (cur.toList.take o++z.cells.toList++cur.toList.drop (o+size)).toArray):=by
 have hzc:(Builtin.zeroCells z.cells 1).toList=z.cells.toList:=by
  unfold Builtin.zeroCells
  apply yV
  ·simp
  intro i h1 h2
  have h3:i<z.cells.size:=by simpa using h2
  simp [Nat.mod_eq_of_lt h3,getElem!_pos z.cells i h3]
 have hl:z.cells.toList.length=size:=by rw [Array.length_toList,hz]
 have hst:=run_storeCells_at P g o e z.cells.toList 0 cur w hr.1 (by rw [yJ,hl];exact hf) h1
 simp only [yJ,hl] at hst
 simp [Builtin.clear_,run_underlying ht,hv,hzc,hst]
end
end Go.Proofs.YtbnnhmcloecijaaGreatDoor
namespace Go.Proofs.YtbnnhmcloecijaaGreatDoor
open Go.RowKit Go.Shelf Go.Lib Go.Sort

theorem Zj {w:World} {g q:Nat} {d:Array Int}:w.grownBy (putRow (Value.int .i64) (Sort.ahead w q) g 0 d) (some g):=by
 refine ⟨rfl,rfl,rfl,by simp [putRow,mapBlock,Sort.ahead],fun k _ hne=>?_⟩
 have:g≠k:=fun e=>hne (by rw [e])
 simp [putRow,mapBlock,Sort.ahead,Array.getElem?_modify,this]
end Go.Proofs.YtbnnhmcloecijaaGreatDoor
namespace Go.Proofs
open Go.Shelf Go.Sort Go.RowKit Go.Lib
def Tryz.delf_ren:Go.Shelf.Ren:=⟨fun|6=>92|10=>44|n=>n,fun|0=>0|3=>3|4=>4|22=>41|23=>3|25=>97|n=>n,fun n=>n⟩
theorem Tryz.delf:SlLaysH.n10 Tryz.prog Tryz.delf_ren where
 mixed:=by kernel_rfl
 f6 := ⟨"slices.IndexFunc[[]int,int]", by decide, Tryz.func92.trans (congrArg some (by kernel_rfl))⟩
 f10 := ⟨"slices.DeleteFunc[[]int,int]", by decide, Tryz.func44.trans (congrArg some (by kernel_rfl))⟩
 t0:=Tryz.underlying0
 a0:=Tryz.isAgg0
 z0:=Tryz.sizeOf0
 v0:=Tryz.zeroValue0
 t3:=Tryz.underlying3
 a3:=Tryz.isAgg3
 z3:=Tryz.sizeOf3
 v3:=Tryz.zeroValue3
 t4:=Tryz.underlying4
 a4:=Tryz.isAgg4
 z4:=Tryz.sizeOf4
 v4:=Tryz.zeroValue4
 t22:=Tryz.underlying41
 a22:=Tryz.isAgg41
 z22:=Tryz.sizeOf41
 v22:=Tryz.zeroValue41
 a23:=Tryz.isAgg3
 z23:=Tryz.sizeOf3
 t25:=Tryz.underlying97
 a25:=Tryz.isAgg97
 z25:=Tryz.sizeOf97
 v25:=Tryz.zeroValue97
end Go.Proofs
namespace Go.Proofs.YtbnnhmcloecijaaGreatDoor
open Go.RowKit Go.Shelf Go.Lib Go.Sort

theorem idxI_at {xs:List Int} {x:Int} {k:Nat} (hk:k<xs.length) (h:xs[k]=x) (hv:∀j (h:j<xs.length),j<k→xs[j]≠x):xs.idxOf x=k:=by
 have h1:xs.idxOf x<xs.length:=List.idxOf_lt_length_iff.2 (h ▸ zP hk)
 have h2:xs[xs.idxOf x]=x:=List.getElem_idxOf h1
 rcases Nat.lt_trichotomy (xs.idxOf x) k with g|g|g
 ·exact absurd h2 (hv _ h1 g)
 ·exact g
 have:=List.not_of_lt_findIdx (p:=(· == x)) (xs:=xs) (i:=k) g
 simp [h] at this
theorem m7 (xs:List Int) (p:Option Addr) (c:Nat) (x:Int) (w:World) (hn:xs.length≤1000000) (h:SliceAt w 1 kh p xs) :
  Calls Tryz.prog 91 #[.slice p xs.length c,.int .i64 x] w fun e w'=>e = .returned (.int .i64 (if x∈xs then (xs.idxOf x:Int) else -1))∧w'=w:=by
 have HC:=q7 h
 clear h
 obtain ⟨R,hR⟩:∃R:Int,R=if x∈xs then (xs.idxOf x:Int) else -1:=⟨_,rfl⟩
 rw [←hR]
 have HR:=q7 hR
 clear hR
 go_enter Tryz.func91,Tryz.ntmps91
 go_wp2
 go_loop [8] (fun i=>∃k:Nat,k≤xs.length∧i = .int .i64 k∧∀j (h:j<xs.length),j<k→xs[j]≠x) (fun i=>xs.length - (intOf i).toNat)
 case atStart=>exact ⟨0,by omega,rfl,fun j _ hj=>by omega⟩
 case round=>
  obtain ⟨k,hk,rfl,hV⟩:=hrel
  have HV:=q7 hV
  clear hV
  by_cases hlt:k<xs.length
  ·obtain ⟨b,o,hp,c0,hfk⟩:=ZJ HC.out (zI _ w) hlt
   subst hp
   have Hlt:=q7 hlt
   have HI:=q7 hfk
   clear hfk
   by_cases he:xs[k]=x
   ·have HE:=q7 he
    have hq:(x == xs[k])=true:=by simp [he]
    clear he
    go_wp2
    go_ret
    refine ⟨?_,rfl⟩
    rw [HR.out,zZ (HE.out ▸ zP Hlt.out),idxI_at Hlt.out HE.out HV.out]
    rfl
   have HE:=q7 he
   have hq:(x == xs[k])=false:=by rw [beq_eq_false_iff_ne];exact fun e=>he e.symm
   clear he
   go_wp2
   refine ⟨⟨k+1,by omega,by go_num,fun j h1 hj=>?_⟩,by simp [intOf];omega⟩
   by_cases hj2:j<k
   ·exact HV.out j h1 hj2
   obtain rfl:j=k:=by omega
   exact HE.out
  have hno:x∉xs:=fun hx=>by
   obtain ⟨j,hj,e⟩:=yp.1 hx
   exact HV.out j hj (by omega) e
  have HNo:=q7 hno
  clear hno
  go_wp2
  go_ret
  refine ⟨?_,rfl⟩
  rw [HR.out,zQ HNo.out]
  rfl
theorem Jm (xs:List Int) (p:Option Addr) (c:Nat) (x:Int) (w:World) (hn:xs.length≤1000000) (h:SliceAt w 1 kh p xs) :
  Calls Tryz.prog 41 #[.slice p xs.length c,.int .i64 x] w fun e w'=>e = .returned (.bool (decide (x∈xs)))∧w'=w:=by
 have HI:=q7 (m7 xs p c x w hn h)
 clear h
 by_cases hx:x∈xs
 ·have hd:decide (x∈xs)=true:=by simpa using hx
  rw [zZ hx] at HI
  rw [hd]
  obtain ⟨k,hk⟩:∃k,k=xs.idxOf x:=⟨_,rfl⟩
  rw [←hk] at HI
  clear hk hd hx
  have hg:decide ((0:Int)≤(k:Int))=true:=by simp
  go_enter Tryz.func41,Tryz.ntmps41
  go_wp2_with (go_at_call 91;refine HI.out.mono ?_;rintro e w2 ⟨rfl,rfl⟩)
  go_ret
  exact ⟨rfl,rfl⟩
 have hd:decide (x∈xs)=false:=by simpa using hx
 rw [zQ hx] at HI
 rw [hd]
 clear hd hx
 go_enter Tryz.func41,Tryz.ntmps41
 go_wp2_with (go_at_call 91;refine HI.out.mono ?_;rintro e w2 ⟨rfl,rfl⟩)
 go_ret
 exact ⟨rfl,rfl⟩
/-! rows of numbers -/
theorem SlO.rowI {w:World} {v:Value} {xs:List Int} {S:Blks} (h:SlO 3 1 VZ w v xs S):w.ownsRow 0 3 1 v xs.length (xs.map (.int .i64))∧(∀x∈xs,I64 x)∧(∀g,v.ownBlock=some g→S g)∧InB w S:=by
 obtain ⟨cs,T,h⟩:=h
 refine ⟨?_,fun x hx=>?_,h.blk,h.inb⟩
 ·have:=h.own
  have e:(List.range xs.length).flatMap cs=xs.map (.int .i64):=by
   refine List.ext_getElem? fun j=>?_
   have hl:=qZ xs.length h.len
   rcases yq j xs.length with g|g
   ·have h2:=xQ (size:=1) xs.length h.len j 0 g (by omega)
    rw [Nat.mul_one,yJ] at h2
    rw [h2,(h.el j g).1]
    simp [g]
   rw [yk (by rw [hl];omega),yk (by simpa using g)]
  rwa [e] at this
 obtain ⟨i,hi,rfl⟩:=yX hx
 exact (h.el i hi).2
theorem SlO.ofRowI {w:World} {v:Value} {xs:List Int} {S:Blks} (h:w.ownsRow 0 3 1 v xs.length (xs.map (.int .i64))) (hx:∀x∈xs,I64 x) (hv:∀g,v.ownBlock=some g→S g) (hS:InB w S):SlO 3 1 VZ w v xs S:=by
 refine ⟨fun i=>[.int .i64 (xs.getD i 0)],fun _ _=>False,⟨?_,fun _ _=>rfl,fun i _ u hu=>?_,fun i hi=>⟨?_,hx _ (zP hi)⟩,fun _ _ _ _ _ _ a _=>a,fun _ _ _ _ a=>a,hv,fun _ _ _ a=>a.elim,hS⟩⟩
 ·have e:(List.range xs.length).flatMap (fun i=>[Value.int .i64 (xs.getD i 0)])=xs.map (.int .i64):=by
   refine List.ext_getElem? fun j=>?_
   have hl:=qZ (cs:=fun i=>[Value.int .i64 (xs.getD i 0)]) (size:=1) xs.length (fun _ _=>rfl)
   rcases yq j xs.length with g|g
   ·have h2:=xQ (cs:=fun i=>[Value.int .i64 (xs.getD i 0)]) (size:=1) xs.length (fun _ _=>rfl) j 0 g (by omega)
    rw [Nat.mul_one,yJ] at h2
    rw [h2]
    simp [List.getD,g]
   rw [yk (by rw [hl];omega),yk (by simpa using g)]
  rw [e]
  exact h
 ·rw [yI.1 hu];rfl
 simp [List.getD,hi]

theorem Y8 (t x:Int) (B:Nat) (W:World) (hc:W.cell? ⟨B,0,none⟩=some (.int .i64 t)):FnGives Tryz.prog 45 #[.pointer (some ⟨B,0,none⟩)] #[.int .i64 x] (.bool (x == t)) W:=by
 show Calls Tryz.prog 45 #[.int .i64 x,.pointer (some ⟨B,0,none⟩)] W _
 go_enter Tryz.func45,Tryz.ntmps45
 go_wp2
 all_goals (go_ret;exact ⟨by simp_all,0,rfl⟩)
theorem cutP_at (t:Int) (B:Nat) (w:World) (hB:B<w.heap.size) (hcell:w.cell? ⟨B,0,none⟩=some (.int .i64 t)):PredAt Tryz.prog 45 #[.pointer (some ⟨B,0,none⟩)] (Value.int .i64) (fun x=>x == t) w:=
 fun W x hb=>Y8 t x B W ((hb.cell (p:=⟨B,0,none⟩) hB).trans hcell)
theorem cutP_over (t:Int) (B blk off size:Nat) (w:World) (hB:B<w.heap.size) (hne:B≠blk) (hcell:w.cell? ⟨B,0,none⟩=some (.int .i64 t)):PredOver Tryz.prog 45 #[.pointer (some ⟨B,0,none⟩)] (Value.int .i64) (fun x=>x == t) blk off size w:=
 fun n os dk x _=>Y8 t x B _ (by
  unfold sortWorld
  rw [cell?_grow _ _ _ (by show B<(putRow _ _ _ _ _).heap.size;rw [size_putRow];exact hB),cell?_putRow_other _ _ blk off _ _ (xH hne)]
  exact hcell)
theorem delI_any (xs:List Int) (g c B:Nat) (t:Int) (w:World) (S:Blks) (h:SlO 3 1 VZ w (.slice (some ⟨g,0,none⟩) xs.length c) xs S) (hB:B<w.heap.size) (hne:B≠g) (hcell:w.cell? ⟨B,0,none⟩=some (.int .i64 t)) (hn:xs.length≤1000000) :
  Calls Tryz.prog 44 #[.slice (some ⟨g,0,none⟩) xs.length c,.func (.func 45) #[] #[.pointer (some ⟨B,0,none⟩)]] w fun e w'=>e = .returned (.slice (some ⟨g,0,none⟩) (xs.filter fun x=>!(x == t)).length c)∧
   SlO 3 1 VZ w' (.slice (some ⟨g,0,none⟩) (xs.filter fun x=>!(x == t)).length c) (xs.filter fun x=>!(x == t)) S∧Kept S w w':=by
 obtain ⟨hrow,hx,hSb,hIn⟩:=h.rowI
 obtain ⟨g',c',hv,_,hlt,hc,hm,hl,hH⟩:=holds_of_ownsRow hrow (by simp)
 cases hv
 have eg:∀args w,(callFunc 45 args).run Tryz.prog w = .ok (.enter 45 args) w:=enters_of Tryz.func45 (by kernel_rfl) rfl
 have hcon:=AnyE.slices_DeleteFunc Tryz.delf (Value.int .i64) (fun _=>rfl) (fun x=>x == t) 45 #[.pointer (some ⟨B,0,none⟩)] eg 0 Tryz.zeroValue3 g 0 c xs.toArray w (cutP_at t B w hB hcell) (cutP_over t B g 0 xs.toArray.size w hB hne hcell) hH (by simp;omega) (by simpa using hc)
 change Calls Tryz.prog 44 _ _ _ at hcon
 refine hcon.mono ?_
 rintro e w' ⟨rfl,q,rfl⟩
 obtain ⟨ys,hys⟩:∃ys,ys=xs.filter fun x=>!(x == t):=⟨_,rfl⟩
 have hyl:ys.length≤xs.length:=by rw [hys];exact List.length_filter_le _ _
 simp only [List.size_toArray]
 rw [←hys]
 have h1:=ownsRow_putRow (ys:=ys++List.replicate (xs.length - ys.length) 0) (q:=q) (k:=ys.length) hrow (by simp;omega) hyl
 have e1:(ys++List.replicate (xs.length - ys.length) (0:Int)).take ys.length=ys:=by simp
 rw [e1] at h1
 have hk:Kept S w (putRow (Value.int .i64) (Sort.ahead w q) g 0 (ys++List.replicate (xs.length - ys.length) 0).toArray):=Kept.of_grown (r:=some g) (by exact Zj) (fun g2 e=>by cases e;exact hSb _ rfl)
 exact ⟨by first|trivial|rfl,SlO.ofRowI h1 (fun x hx2=>hx x (by rw [hys] at hx2;exact (yu.1 hx2).1)) (fun g2 e=>hSb g2 e) (hIn.mono hk.size),hk⟩
end Go.Proofs.YtbnnhmcloecijaaGreatDoor
namespace Go.Proofs.YtbnnhmcloecijaaGreatDoor
open Go.RowKit Go.Shelf

theorem Qk (g cap n k j:Nat) (xs:List (Bool×Int)) (cur:Array Value) (w:World) (hr:RowAt w 40 g cap 2 cur) (hx:cur.toList.take (n*2)=qW xs) (hl:xs.length=n) (hn:n≤cap) (hk:k<n) (hj:j=k+1) :
  Calls Tryz.prog 42 #[.slice (some ⟨g,0,none⟩) n cap,.int .i64 k,.int .i64 j] w fun e w'=>
   e = .returned (.slice (some ⟨g,0,none⟩) (n - 1) cap)∧(∃cur',RowAt w' 40 g cap 2 cur'∧cur'.toList.take ((n - 1)*2)=qW (xs.eraseIdx k))∧Kept (fun b=>b=g) w w':=by
 obtain ⟨i1,k1,k2,k3,k4⟩:=info_parts Zy
 have hcm:cap≤9223372036854775807:=hr.2.2
 have hcs:=hr.2.1
 have hlt:k<j:=by omega
 have hjn:j≤n:=by omega
 obtain ⟨news,hnews⟩:∃news,news=qW (xs.drop j):=⟨_,rfl⟩
 have hlen:news.length=(n - j)*2:=by rw [hnews,xk,List.length_drop,hl]
 have hget:∀t u,news[t]?=some u→cur[j*2+t]?=some u:=fun t u hu=>by
  rw [hnews,QV,List.getElem?_drop,←hx] at hu
  rw [←xJ]
  rw [List.getElem?_take] at hu
  split at hu
  ·exact hu
  cases hu
 obtain ⟨A,hA,hsrc⟩:∃A:Addr,(if cap=j then some (⟨g,0,none⟩:Addr) else some ⟨g,j*2,none⟩)=some A∧Hid (∀t u,news[t]?=some u→w.drew.cell? (A.add t)=some u):=by
  by_cases h:cap=j
  ·refine ⟨⟨g,0,none⟩,by simp [h],fun t u hu=>?_⟩
   have h0:news.length=0:=by rw [hlen];omega
   rw [yd.1 h0] at hu
   simp at hu
  refine ⟨⟨g,j*2,none⟩,by simp [h],fun t u hu=>?_⟩
  rw [vC]
  exact (hr.drew.cell _).trans (hget t u hu)
 have s2:Hid (∀u∈news,u.oneCell'=true):=by rw [hnews];exact QB _
 have s1:=q7 hlen
 obtain ⟨c1,hc1⟩:∃c1:List Value,c1=cur.toList.take (k*2)++news++cur.toList.drop (k*2+news.length):=⟨_,rfl⟩
 have hbA:c1.length=cap*2:=by
  rw [hc1]
  simp only [yN,yr,List.length_drop,Array.length_toList,hcs,hlen]
  omega
 obtain ⟨W1,hW1⟩:∃W1,W1=w.drew.setRow g c1.toArray:=⟨_,rfl⟩
 have hr1:RowAt W1 40 g cap 2 c1.toArray:=by rw [hW1];exact hr.drew.put hbA
 have hcl:∀ty c,(Builtin.clear_ #[55] ty #[.slice (some ⟨g,(n - 1)*2,none⟩) 1 c]).run Tryz.prog W1 = .ok (.tuple #[]) (W1.setRow g (c1.toArray.toList.take ((n - 1)*2)++(Value.agg #[.bool false,.int .i64 0]).cells.toList++c1.toArray.toList.drop ((n - 1)*2+2)).toArray):=fun ty c=>
  run_clear_row W1 55 40 ty (.agg #[.bool false,.int .i64 0]) 2 Tryz.underlying55 Tryz.zeroValue40 rfl (fun u hu=>by simp [Value.cells] at hu;rcases hu with rfl|rfl<;>rfl) g _ c cap _ hr1 (by simp [hbA];omega)
 have HW:=q7 hW1
 have HR:=q7 hr
 have HR1:=q7 hr1
 have hkc:k≤cap:=by omega
 have hjc:j≤cap:=by omega
 have hkm:k+(n - j)=n - 1:=by omega
 have hn1:n - (n - 1)=1:=by omega
 have HX:=q7 (zh hx (zh hc1 hbA))
 have HN:=q7 (zh hnews (zh hl hj))
 have mixed:Tryz.prog.follows .mixedOrders=true:=by kernel_rfl
 clear hW1 hr hr1 hget hlen hnews hx hc1 hbA hj
 go_enter Tryz.func42,Tryz.ntmps42
 go_wp2_with fail
 go_region_law_o (refine step_append_row rfl (.tmp 22) (.tmp 25) 55 rfl 40 i1 2 Tryz.underlying55 k1 k3 g k cap cur (by simp [Act.eval,Act.put]) HR.out.drew A (n - j) (cap - j) news (by simp [Act.eval,Act.put]) s1.out hsrc.out s2.out (by omega) ?_;rw [←HX.out.2.1,←HW.out,hkm])
 go_wp2
 go_ret
 obtain ⟨hx,hc1,hbA⟩:=HX.out
 obtain ⟨hnews,hl,hj⟩:=HN.out
 have hpV:(c1.take ((n - 1)*2)++Value.bool false::Value.int .i64 0::c1.drop ((n - 1)*2+2)).length=cap*2:=by
  simp only [yN,yr,List.length_drop,hbA,yi]
  omega
 refine ⟨rfl,⟨_,HR1.out.put hpV,?_⟩,((Kept.refl _ _).drew.trans (HW.out ▸ HR.out.drew.keep _) (fun _ _ h=>h)).trans (HR1.out.keep _) (fun _ _ h=>h)⟩
 have e1:c1.take ((n - 1)*2)=qW (xs.eraseIdx k):=by
  have l1:(cur.toList.take (k*2)++news).length=(n - 1)*2:=by
   simp only [yN,yr,Array.length_toList,hcs,s1.out]
   omega
  rw [hc1,←l1,List.take_left,hnews,List.eraseIdx_eq_take_drop_succ,QA,QU,←hx,List.take_take,hj]
  congr 2
  omega
 have l2:(c1.take ((n - 1)*2)).length=(n - 1)*2:=by
  simp only [yr,hbA]
  omega
 show List.take ((n - 1)*2) (c1.take ((n - 1)*2)++_)=_
 rw [List.take_append_of_le_length (by rw [l2];exact zK _),List.take_take,Nat.min_self]
 exact e1
end Go.Proofs.YtbnnhmcloecijaaGreatDoor
namespace Go.Proofs.YtbnnhmcloecijaaGreatDoor
open Go.RowKit

theorem xY {w:World} {a:Addr} {u:Value} (h:w.cell? a=some u) (o:Obj):(w.alloc o).cell? a=some u:=(zN (xG w o a.block (World.block_lt_of_cell? w a h))).trans h

theorem m8 {R:List Value→PhiL→Prop} (h1:∀cs x,R cs x→∀u∈cs,u.oneCell'=true) (xs:List PhiL) (p:Option Addr) (c:Nat) (w:World) (h:SliceAt w 2 R p xs) (hp:p=none→xs.length=0∧c=0) (hl:xs.length*32≤reachBytes) :
  Calls Tryz.prog 108 #[.slice p xs.length c] w fun e w'=>∃p' c',e = .returned (.slice p' xs.length c')∧(∃S,SlQ 88 2 32 (DatO R) w' (.slice p' xs.length c') xs S∧LoB w.heap.size S)∧Below w.heap.size w w':=by
 have hlr:xs.length*32≤140737488351232:=hl
 rcases p with _|a
 ·obtain ⟨h0,rfl⟩:=hp rfl
  obtain rfl:=yd.1 h0
  have he:∀w:World,(binOp .eql 37 (.slice none 0 0) (.slice none 0 0)).run Tryz.prog w = .ok (.bool true) w:=fun _=>rfl
  go_enter Tryz.func108,Tryz.ntmps108
  go_wp2_with fail
  go_ret
  exact ⟨none,0,rfl,⟨fun _=>False,⟨SlO.nil _ _ _ _ (fun _ h=>h.elim),by simp⟩,fun _ h=>h.elim⟩,zI _ _⟩
 obtain ⟨i1,k1,k2,k3,k4⟩:=info_parts Y0
 have HO:=q7 fun i (hi:i<xs.length)=>h.old hi
 have HL:Hid (∀i,i<xs.length→(jF w (some a) 2 i).length=2):=q7 fun _ _=>vH _ _ _ _
 have HF:Hid (∀j u,((List.range xs.length).flatMap (jF w (some a) 2))[j]?=some u→w.cell? (a.add j)=some u):=q7 fun j u hu=>by
  have hj:j<xs.length*2:=by
   rw [←qZ _ HL.out]
   exact (List.getElem?_eq_some_iff.1 hu).1
  have hi:j / 2<xs.length:=by omega
  have hm:j % 2<2:=by omega
  have e:j=j / 2*2+j % 2:=by omega
  rw [e,xQ _ HL.out _ _ hi hm] at hu
  rw [e,(HO.out _ hi).2 _ hm a rfl,hu]
 have he:∀w:World,(binOp .eql 37 (.slice (some a) xs.length c) (.slice none 0 0)).run Tryz.prog w = .ok (.bool false) w:=fun _=>rfl
 have H1:=q7 h1
 clear h h1
 go_enter Tryz.func108,Tryz.ntmps108
 go_wp2_with (at_builtin;refine wpList_append_own _ rfl (.tmp 5) (.tmp 6) 37 rfl w.heap.size 88 i1 _ 2 32 Tryz.underlying37 k1 k2 k3 k4 rfl (by decide) _ 0 [] rfl ?c0 a xs.length c ((List.range xs.length).flatMap (jF w (some a) 2)) rfl ?c1 ?c2 ?c3 ?c4 ?c5 ?c6 ?_)
 case c0=>exact vY (qn _ _) (zK _)
 case c1=>exact qZ _ HL.out
 case c2=>exact fun j u hu=>xY (HF.out j u hu) _
 case c3=>exact jD fun i hi=>H1.out _ _ (HO.out i hi).1
 case c4=>unfold maxLen;omega
 case c5=>omega
 case c6=>simp
 intro v' w' hown hg _
 have hval:∃p' c',v' = .slice p' xs.length c':=by
  rcases hown.2 with ⟨h1,h2⟩|⟨g,cap,cur,h1,_⟩
  ·exact ⟨none,0,by rw [h1,show xs.length=0 by omega]⟩
  exact ⟨some ⟨g,0,none⟩,cap,by rw [h1]⟩
 obtain ⟨p',c',rfl⟩:=hval
 go_wp2
 refine zk (v:=.slice p' xs.length c') ?_ rfl ⟨p',c',rfl,⟨_,⟨SlO.flat (base:=w.heap.size) (cs:=jF w (some a) 2) (by simpa using hown) HL.out (fun i hi=>H1.out _ _ (HO.out i hi).1) (fun i hi=>(HO.out i hi).1),hl⟩,fun k hk=>(hown.lt k hk).1⟩,?_⟩
 ·simp [results,Tryz.results108,go_sem]
 exact Below.grown bZ hg (by simp) (fun b e=>by cases e;exact zK _)

theorem m9 {R:List Value→InsL→Prop} (h1:∀cs x,R cs x→∀u∈cs,u.oneCell'=true) (xs:List InsL) (p:Option Addr) (c:Nat) (w:World) (h:SliceAt w 8 R p xs) (hp:p=none→xs.length=0∧c=0) (hl:xs.length*80≤reachBytes) :
  Calls Tryz.prog 109 #[.slice p xs.length c] w fun e w'=>∃p' c',e = .returned (.slice p' xs.length c')∧(∃S,SlQ 57 8 80 (DatO R) w' (.slice p' xs.length c') xs S∧LoB w.heap.size S)∧Below w.heap.size w w':=by
 have hlr:xs.length*80≤140737488351232:=hl
 rcases p with _|a
 ·obtain ⟨h0,rfl⟩:=hp rfl
  obtain rfl:=yd.1 h0
  have he:∀w:World,(binOp .eql 38 (.slice none 0 0) (.slice none 0 0)).run Tryz.prog w = .ok (.bool true) w:=fun _=>rfl
  go_enter Tryz.func109,Tryz.ntmps109
  go_wp2_with fail
  go_ret
  exact ⟨none,0,rfl,⟨fun _=>False,⟨SlO.nil _ _ _ _ (fun _ h=>h.elim),by simp⟩,fun _ h=>h.elim⟩,zI _ _⟩
 obtain ⟨i1,k1,k2,k3,k4⟩:=info_parts Jg
 have HO:=q7 fun i (hi:i<xs.length)=>h.old hi
 have HL:Hid (∀i,i<xs.length→(jF w (some a) 8 i).length=8):=q7 fun _ _=>vH _ _ _ _
 have HF:Hid (∀j u,((List.range xs.length).flatMap (jF w (some a) 8))[j]?=some u→w.cell? (a.add j)=some u):=q7 fun j u hu=>by
  have hj:j<xs.length*8:=by
   rw [←qZ _ HL.out]
   exact (List.getElem?_eq_some_iff.1 hu).1
  have hi:j / 8<xs.length:=by omega
  have hm:j % 8<8:=by omega
  have e:j=j / 8*8+j % 8:=by omega
  rw [e,xQ _ HL.out _ _ hi hm] at hu
  rw [e,(HO.out _ hi).2 _ hm a rfl,hu]
 have he:∀w:World,(binOp .eql 38 (.slice (some a) xs.length c) (.slice none 0 0)).run Tryz.prog w = .ok (.bool false) w:=fun _=>rfl
 have H1:=q7 h1
 clear h h1
 go_enter Tryz.func109,Tryz.ntmps109
 go_wp2_with (at_builtin;refine wpList_append_own _ rfl (.tmp 5) (.tmp 6) 38 rfl w.heap.size 57 i1 _ 8 80 Tryz.underlying38 k1 k2 k3 k4 rfl (by decide) _ 0 [] rfl ?c0 a xs.length c ((List.range xs.length).flatMap (jF w (some a) 8)) rfl ?c1 ?c2 ?c3 ?c4 ?c5 ?c6 ?_)
 case c0=>exact vY (qn _ _) (zK _)
 case c1=>exact qZ _ HL.out
 case c2=>exact fun j u hu=>xY (HF.out j u hu) _
 case c3=>exact jD fun i hi=>H1.out _ _ (HO.out i hi).1
 case c4=>unfold maxLen;omega
 case c5=>omega
 case c6=>simp
 intro v' w' hown hg _
 have hval:∃p' c',v' = .slice p' xs.length c':=by
  rcases hown.2 with ⟨h1,h2⟩|⟨g,cap,cur,h1,_⟩
  ·exact ⟨none,0,by rw [h1,show xs.length=0 by omega]⟩
  exact ⟨some ⟨g,0,none⟩,cap,by rw [h1]⟩
 obtain ⟨p',c',rfl⟩:=hval
 go_wp2
 refine zk (v:=.slice p' xs.length c') ?_ rfl ⟨p',c',rfl,⟨_,⟨SlO.flat (base:=w.heap.size) (cs:=jF w (some a) 8) (by simpa using hown) HL.out (fun i hi=>H1.out _ _ (HO.out i hi).1) (fun i hi=>(HO.out i hi).1),hl⟩,fun k hk=>(hown.lt k hk).1⟩,?_⟩
 ·simp [results,Tryz.results109,go_sem]
 exact Below.grown bZ hg (by simp) (fun b e=>by cases e;exact zK _)

theorem mc {R:List Value→BlkL→Prop} (h1:∀cs x,R cs x→∀u∈cs,u.oneCell'=true) (xs:List BlkL) (p:Option Addr) (c:Nat) (w:World) (h:SliceAt w 6 R p xs) (hp:p=none→xs.length=0∧c=0) (hl:xs.length*96≤reachBytes) :
  Calls Tryz.prog 107 #[.slice p xs.length c] w fun e w'=>∃p' c',e = .returned (.slice p' xs.length c')∧(∃S,SlQ 45 6 96 (DatO R) w' (.slice p' xs.length c') xs S∧LoB w.heap.size S)∧Below w.heap.size w w':=by
 have hlr:xs.length*96≤140737488351232:=hl
 rcases p with _|a
 ·obtain ⟨h0,rfl⟩:=hp rfl
  obtain rfl:=yd.1 h0
  have he:∀w:World,(binOp .eql 34 (.slice none 0 0) (.slice none 0 0)).run Tryz.prog w = .ok (.bool true) w:=fun _=>rfl
  go_enter Tryz.func107,Tryz.ntmps107
  go_wp2_with fail
  go_ret
  exact ⟨none,0,rfl,⟨fun _=>False,⟨SlO.nil _ _ _ _ (fun _ h=>h.elim),by simp⟩,fun _ h=>h.elim⟩,zI _ _⟩
 obtain ⟨i1,k1,k2,k3,k4⟩:=info_parts Ji
 have HO:=q7 fun i (hi:i<xs.length)=>h.old hi
 have HL:Hid (∀i,i<xs.length→(jF w (some a) 6 i).length=6):=q7 fun _ _=>vH _ _ _ _
 have HF:Hid (∀j u,((List.range xs.length).flatMap (jF w (some a) 6))[j]?=some u→w.cell? (a.add j)=some u):=q7 fun j u hu=>by
  have hj:j<xs.length*6:=by
   rw [←qZ _ HL.out]
   exact (List.getElem?_eq_some_iff.1 hu).1
  have hi:j / 6<xs.length:=by omega
  have hm:j % 6<6:=by omega
  have e:j=j / 6*6+j % 6:=by omega
  rw [e,xQ _ HL.out _ _ hi hm] at hu
  rw [e,(HO.out _ hi).2 _ hm a rfl,hu]
 have he:∀w:World,(binOp .eql 34 (.slice (some a) xs.length c) (.slice none 0 0)).run Tryz.prog w = .ok (.bool false) w:=fun _=>rfl
 have H1:=q7 h1
 clear h h1
 go_enter Tryz.func107,Tryz.ntmps107
 go_wp2_with (at_builtin;refine wpList_append_own _ rfl (.tmp 5) (.tmp 6) 34 rfl w.heap.size 45 i1 _ 6 96 Tryz.underlying34 k1 k2 k3 k4 rfl (by decide) _ 0 [] rfl ?c0 a xs.length c ((List.range xs.length).flatMap (jF w (some a) 6)) rfl ?c1 ?c2 ?c3 ?c4 ?c5 ?c6 ?_)
 case c0=>exact vY (qn _ _) (zK _)
 case c1=>exact qZ _ HL.out
 case c2=>exact fun j u hu=>xY (HF.out j u hu) _
 case c3=>exact jD fun i hi=>H1.out _ _ (HO.out i hi).1
 case c4=>unfold maxLen;omega
 case c5=>omega
 case c6=>simp
 intro v' w' hown hg _
 have hval:∃p' c',v' = .slice p' xs.length c':=by
  rcases hown.2 with ⟨h1,h2⟩|⟨g,cap,cur,h1,_⟩
  ·exact ⟨none,0,by rw [h1,show xs.length=0 by omega]⟩
  exact ⟨some ⟨g,0,none⟩,cap,by rw [h1]⟩
 obtain ⟨p',c',rfl⟩:=hval
 go_wp2
 refine zk (v:=.slice p' xs.length c') ?_ rfl ⟨p',c',rfl,⟨_,⟨SlO.flat (base:=w.heap.size) (cs:=jF w (some a) 6) (by simpa using hown) HL.out (fun i hi=>H1.out _ _ (HO.out i hi).1) (fun i hi=>(HO.out i hi).1),hl⟩,fun k hk=>(hown.lt k hk).1⟩,?_⟩
 ·simp [results,Tryz.results107,go_sem]
 exact Below.grown bZ hg (by simp) (fun b e=>by cases e;exact zK _)

theorem mf {R:List Value→FunL→Prop} (h1:∀cs x,R cs x→∀u∈cs,u.oneCell'=true) (xs:List FunL) (p:Option Addr) (c:Nat) (w:World) (h:SliceAt w 4 R p xs) (hp:p=none→xs.length=0∧c=0) (hl:xs.length*56≤reachBytes) :
  Calls Tryz.prog 59 #[.slice p xs.length c] w fun e w'=>∃p' c',e = .returned (.slice p' xs.length c')∧(∃S,SlQ 36 4 56 (DatO R) w' (.slice p' xs.length c') xs S∧LoB w.heap.size S)∧Below w.heap.size w w':=by
 have hlr:xs.length*56≤140737488351232:=hl
 rcases p with _|a
 ·obtain ⟨h0,rfl⟩:=hp rfl
  obtain rfl:=yd.1 h0
  have he:∀w:World,(binOp .eql 23 (.slice none 0 0) (.slice none 0 0)).run Tryz.prog w = .ok (.bool true) w:=fun _=>rfl
  go_enter Tryz.func59,Tryz.ntmps59
  go_wp2_with fail
  go_ret
  exact ⟨none,0,rfl,⟨fun _=>False,⟨SlO.nil _ _ _ _ (fun _ h=>h.elim),by simp⟩,fun _ h=>h.elim⟩,zI _ _⟩
 obtain ⟨i1,k1,k2,k3,k4⟩:=info_parts Y3
 have HO:=q7 fun i (hi:i<xs.length)=>h.old hi
 have HL:Hid (∀i,i<xs.length→(jF w (some a) 4 i).length=4):=q7 fun _ _=>vH _ _ _ _
 have HF:Hid (∀j u,((List.range xs.length).flatMap (jF w (some a) 4))[j]?=some u→w.cell? (a.add j)=some u):=q7 fun j u hu=>by
  have hj:j<xs.length*4:=by
   rw [←qZ _ HL.out]
   exact (List.getElem?_eq_some_iff.1 hu).1
  have hi:j / 4<xs.length:=by omega
  have hm:j % 4<4:=by omega
  have e:j=j / 4*4+j % 4:=by omega
  rw [e,xQ _ HL.out _ _ hi hm] at hu
  rw [e,(HO.out _ hi).2 _ hm a rfl,hu]
 have he:∀w:World,(binOp .eql 23 (.slice (some a) xs.length c) (.slice none 0 0)).run Tryz.prog w = .ok (.bool false) w:=fun _=>rfl
 have H1:=q7 h1
 clear h h1
 go_enter Tryz.func59,Tryz.ntmps59
 go_wp2_with (at_builtin;refine wpList_append_own _ rfl (.tmp 5) (.tmp 6) 23 rfl w.heap.size 36 i1 _ 4 56 Tryz.underlying23 k1 k2 k3 k4 rfl (by decide) _ 0 [] rfl ?c0 a xs.length c ((List.range xs.length).flatMap (jF w (some a) 4)) rfl ?c1 ?c2 ?c3 ?c4 ?c5 ?c6 ?_)
 case c0=>exact vY (qn _ _) (zK _)
 case c1=>exact qZ _ HL.out
 case c2=>exact fun j u hu=>xY (HF.out j u hu) _
 case c3=>exact jD fun i hi=>H1.out _ _ (HO.out i hi).1
 case c4=>unfold maxLen;omega
 case c5=>omega
 case c6=>simp
 intro v' w' hown hg _
 have hval:∃p' c',v' = .slice p' xs.length c':=by
  rcases hown.2 with ⟨h1,h2⟩|⟨g,cap,cur,h1,_⟩
  ·exact ⟨none,0,by rw [h1,show xs.length=0 by omega]⟩
  exact ⟨some ⟨g,0,none⟩,cap,by rw [h1]⟩
 obtain ⟨p',c',rfl⟩:=hval
 go_wp2
 refine zk (v:=.slice p' xs.length c') ?_ rfl ⟨p',c',rfl,⟨_,⟨SlO.flat (base:=w.heap.size) (cs:=jF w (some a) 4) (by simpa using hown) HL.out (fun i hi=>H1.out _ _ (HO.out i hi).1) (fun i hi=>(HO.out i hi).1),hl⟩,fun k hk=>(hown.lt k hk).1⟩,?_⟩
 ·simp [results,Tryz.results59,go_sem]
 exact Below.grown bZ hg (by simp) (fun b e=>by cases e;exact zK _)

theorem mg {R:List Value→GloL→Prop} (h1:∀cs x,R cs x→∀u∈cs,u.oneCell'=true) (xs:List GloL) (p:Option Addr) (c:Nat) (w:World) (h:SliceAt w 3 R p xs) (hp:p=none→xs.length=0∧c=0) (hl:xs.length*48≤reachBytes) :
  Calls Tryz.prog 58 #[.slice p xs.length c] w fun e w'=>∃p' c',e = .returned (.slice p' xs.length c')∧(∃S,SlQ 82 3 48 (DatO R) w' (.slice p' xs.length c') xs S∧LoB w.heap.size S)∧Below w.heap.size w w':=by
 have hlr:xs.length*48≤140737488351232:=hl
 rcases p with _|a
 ·obtain ⟨h0,rfl⟩:=hp rfl
  obtain rfl:=yd.1 h0
  have he:∀w:World,(binOp .eql 22 (.slice none 0 0) (.slice none 0 0)).run Tryz.prog w = .ok (.bool true) w:=fun _=>rfl
  go_enter Tryz.func58,Tryz.ntmps58
  go_wp2_with fail
  go_ret
  exact ⟨none,0,rfl,⟨fun _=>False,⟨SlO.nil _ _ _ _ (fun _ h=>h.elim),by simp⟩,fun _ h=>h.elim⟩,zI _ _⟩
 obtain ⟨i1,k1,k2,k3,k4⟩:=info_parts Y2
 have HO:=q7 fun i (hi:i<xs.length)=>h.old hi
 have HL:Hid (∀i,i<xs.length→(jF w (some a) 3 i).length=3):=q7 fun _ _=>vH _ _ _ _
 have HF:Hid (∀j u,((List.range xs.length).flatMap (jF w (some a) 3))[j]?=some u→w.cell? (a.add j)=some u):=q7 fun j u hu=>by
  have hj:j<xs.length*3:=by
   rw [←qZ _ HL.out]
   exact (List.getElem?_eq_some_iff.1 hu).1
  have hi:j / 3<xs.length:=by omega
  have hm:j % 3<3:=by omega
  have e:j=j / 3*3+j % 3:=by omega
  rw [e,xQ _ HL.out _ _ hi hm] at hu
  rw [e,(HO.out _ hi).2 _ hm a rfl,hu]
 have he:∀w:World,(binOp .eql 22 (.slice (some a) xs.length c) (.slice none 0 0)).run Tryz.prog w = .ok (.bool false) w:=fun _=>rfl
 have H1:=q7 h1
 clear h h1
 go_enter Tryz.func58,Tryz.ntmps58
 go_wp2_with (at_builtin;refine wpList_append_own _ rfl (.tmp 5) (.tmp 6) 22 rfl w.heap.size 82 i1 _ 3 48 Tryz.underlying22 k1 k2 k3 k4 rfl (by decide) _ 0 [] rfl ?c0 a xs.length c ((List.range xs.length).flatMap (jF w (some a) 3)) rfl ?c1 ?c2 ?c3 ?c4 ?c5 ?c6 ?_)
 case c0=>exact vY (qn _ _) (zK _)
 case c1=>exact qZ _ HL.out
 case c2=>exact fun j u hu=>xY (HF.out j u hu) _
 case c3=>exact jD fun i hi=>H1.out _ _ (HO.out i hi).1
 case c4=>unfold maxLen;omega
 case c5=>omega
 case c6=>simp
 intro v' w' hown hg _
 have hval:∃p' c',v' = .slice p' xs.length c':=by
  rcases hown.2 with ⟨h1,h2⟩|⟨g,cap,cur,h1,_⟩
  ·exact ⟨none,0,by rw [h1,show xs.length=0 by omega]⟩
  exact ⟨some ⟨g,0,none⟩,cap,by rw [h1]⟩
 obtain ⟨p',c',rfl⟩:=hval
 go_wp2
 refine zk (v:=.slice p' xs.length c') ?_ rfl ⟨p',c',rfl,⟨_,⟨SlO.flat (base:=w.heap.size) (cs:=jF w (some a) 3) (by simpa using hown) HL.out (fun i hi=>H1.out _ _ (HO.out i hi).1) (fun i hi=>(HO.out i hi).1),hl⟩,fun k hk=>(hown.lt k hk).1⟩,?_⟩
 ·simp [results,Tryz.results58,go_sem]
 exact Below.grown bZ hg (by simp) (fun b e=>by cases e;exact zK _)

end Go.Proofs.YtbnnhmcloecijaaGreatDoor
