/-
  The contract of graph.Ahead: of each block the blocks that lead to it (the same text as co
-/
import Derived.Lib.AppendZeros
import Derived.Test.YtgjjhadbjmcnpaaGreatDoorJTidJ
set_option maxRecDepth 100000
set_option maxHeartbeats 16000000
namespace Go.Proofs.YtgjjhadbjmcnpaaGreatDoor
open Go.RowKit

def kC (f:FunL):Bool:=decide (40<f.blocks.length) || (decide (300<xm f) || decide (100<f.regs))
def xM (xs:List FunL):Int×Int:=match xs.findIdx? kC with
 | none=>(0,0)
 | some k=>(10,k)
theorem ZQ {xs:List FunL} {k:Nat} (hk:k<xs.length) (h:kC xs[k]=true) (hb:∀j (hj:j<xs.length),j<k→kC xs[j]=false):xM xs=(10,(k:Int)):=by
 unfold xM
 rw [List.findIdx?_eq_some_iff_getElem.2 ⟨hk,h,fun j hj=>by simp [hb j (by omega) hj]⟩]
theorem VU {xs:List FunL} (hb:∀j (hj:j<xs.length),kC xs[j]=false):xM xs=(0,0):=by
 unfold xM
 rw [List.findIdx?_eq_none_iff.2 fun x hx=>?_]
 obtain ⟨i,hi,rfl⟩:=List.mem_iff_getElem.1 hx
 exact hb i hi

theorem ZR (f:FunL) (bp:Option Addr) (bc:Nat) (w:World) (h40:f.blocks.length≤40) (hb:SliceAt w 6 (BlkR w) bp f.blocks) :
  Calls Tryz.prog 55 #[.agg #[.string f.name,.int .i64 f.params,.int .i64 f.regs,.slice bp f.blocks.length bc]] w fun e w'=>e = .returned (.int .i64 (xm f))∧Below w.heap.size w w':=by
 have HB:=q8 hb
 clear hb
 go_enter Tryz.func55,Tryz.ntmps55
 go_wp2
 go_loopw [3,9] (fun m i wr=>∃(k:Nat) (x:Int),k≤f.blocks.length∧i = .int .i64 k∧m = .int .i64 x∧(x=jR f k∧jR f k≤k*10000000000000)∧Below (w.heap.size+1) (w.alloc (.cells #[.string f.name,.int .i64 f.params,.int .i64 f.regs,.slice bp f.blocks.length bc] 38)) wr) (fun _ i _=>f.blocks.length - (intOf i).toNat)
 case atStart=>exact ⟨0,0,by omega,rfl,rfl,by simp [jR],Below.refl _ _⟩
 case round=>
  obtain ⟨k,x,hk,rfl,rfl,hV,hb⟩:=hrel
  have HV:=q8 hV
  have HBw:=q8 hb
  have HBx:Hid (Below w.heap.size w wr):=((Below.refl _ _).alloc (Nat.le_refl _) _).trans (hb.mono (by omega))
  have hz:w.heap.size<wr.heap.size:=by have:=hb.size;simp at this;omega
  obtain ⟨hcc,hcf⟩:=blk (qg hb (by omega) (qx w _))
  clear hV hb
  by_cases hlt:k<f.blocks.length
  ·obtain ⟨b2,o2,q1,c1,q2,c2,q3,c3,hp,e0,e1,e2,e3,e4,e5,_,_,hl1,hl2,_,_,_,_⟩:=jH HB.out HBx.out hlt
   subst hp
   go_wp2
   refine ⟨⟨k+1,_,by omega,by go_num,rfl,?_,?_⟩,by simp [intOf];omega⟩
   ·obtain ⟨h1,h2⟩:=HV.out
    rw [Qn f k hlt]
    refine ⟨?_,by omega⟩
    rw [IntWalk.wrap64_in _ ⟨by omega,by omega⟩,h1]
    omega
   exact HBw.out.alloc (by omega) _
  have HM:Hid (x=xm f):=by
   show _=_
   have:=HV.out.1
   rw [show k=f.blocks.length by omega,Z8] at this
   exact this
  go_wp2
  go_ret
  refine ⟨?_,HBx.out⟩
  rw [HM.out]
  rfl

theorem fits_any (xs:List FunL) (q1 fp:Option Addr) (n1 c1 fc:Nat) (w:World) (hn:xs.length≤140737488355328) (hF:SliceAt w 4 (FunR w) fp xs) :
  Calls Tryz.prog 22 #[.agg #[.slice q1 n1 c1,.slice fp xs.length fc]] w fun e w'=>e = .returned (.agg #[.int .i64 (xM xs).1,.int .i64 (xM xs).2])∧Below w.heap.size w w':=by
 have HF:=q8 hF
 clear hF
 go_enter Tryz.func22,Tryz.ntmps22
 go_wp2
 go_loopw [8] (fun i wr=>∃k:Nat,k≤xs.length∧i = .int .i64 k∧(∀j (h:j<xs.length),j<k→kC xs[j]=false)∧Below (w.heap.size+1+1) ((w.alloc (.cells #[.slice q1 n1 c1,.slice fp xs.length fc] 25)).alloc (.cells #[.int .i64 0,.int .i64 0] 27)) wr) (fun i _=>xs.length - (intOf i).toNat)
 case atStart=>exact ⟨0,by omega,rfl,fun j _ h=>by omega,Below.refl _ _⟩
 case round=>
  obtain ⟨k,hk,rfl,hV,hb⟩:=hrel
  have HV:=q8 hV
  have HBw:=q8 hb
  have hz:w.heap.size+1<wr.heap.size:=by have:=hb.size;simp at this;omega
  have hbw:Below w.heap.size w wr:=(((Below.refl _ _).alloc (Nat.le_refl _) _).alloc (by simp) _).trans (hb.mono (by omega))
  have HBx:=q8 hbw
  obtain ⟨hcc,hcf⟩:=blk (qg hb (by omega) (qh (qx _ _)))
  have hrr:=qg hb (k:=w.heap.size+1) (by omega) (qq (by simp))
  obtain ⟨hrc,hrf⟩:=blk hrr
  clear hV hb hbw
  by_cases hlt:k<xs.length
  rotate_left
  ·have HE:Hid (xM xs=(0,0)):=VU fun j hj=>HV.out j hj (by omega)
   go_wp2_with fail
   refine bodyPost_ret (v:=.agg #[.int .i64 0,.int .i64 0]) ?_ rfl ⟨by rw [HE.out],?_⟩
   ·have hR:=qj (qj hrr 0 (.int .i64 0)) 1 (.int .i64 0)
    obtain ⟨hh,_⟩:=blk hR
    have h0:=hh 0
    have h1:=hh 1
    simp [results,Tryz.results22,go_sem,h0,h1]
   exact (HBx.out.setCell (p:=⟨w.heap.size+1,0,none⟩) (Nat.le_succ _) _).setCell (p:=⟨w.heap.size+1,1,none⟩) (Nat.le_succ _) _
  obtain ⟨b2,o2,q,c,hp,e0,e1,e2,e3,_,i1,i2,hbl,hbs⟩:=jI HF.out HBx.out hlt
  subst hp
  have HS:=q8 hbs
  clear hbs
  have HRr:=q8 hrr
  clear hrr
  by_cases h1:40<xs[k].blocks.length
  ·have hm:kC xs[k]=true:=by simp [kC,h1]
   have HE:Hid (xM xs=(10,(k:Int))):=ZQ hlt hm fun j hj hjk=>HV.out j hj hjk
   clear hm
   go_wp2_with fail
   refine bodyPost_ret (v:=.agg #[.int .i64 10,.int .i64 k]) ?_ rfl ⟨by rw [HE.out],?_⟩
   ·have hR:=qj (qj HRr.out 0 (.int .i64 10)) 1 (.int .i64 k)
    obtain ⟨hh,_⟩:=blk (qh hR (o:=.cells #[.string xs[k].name,.int .i64 xs[k].params,.int .i64 xs[k].regs,.slice q xs[k].blocks.length c] 38))
    have h0:=hh 0
    have h1:=hh 1
    simp [results,Tryz.results22,go_sem,h0,h1]
   exact ((HBx.out.setCell (p:=⟨w.heap.size+1,0,none⟩) (Nat.le_succ _) _).setCell (p:=⟨w.heap.size+1,1,none⟩) (Nat.le_succ _) _).alloc (by simp;omega) _
  have hS1:SliceAt (wr.alloc (.cells #[.string xs[k].name,.int .i64 xs[k].params,.int .i64 xs[k].regs,.slice q xs[k].blocks.length c] 38)) 6 (BlkR (wr.alloc (.cells #[.string xs[k].name,.int .i64 xs[k].params,.int .i64 xs[k].regs,.slice q xs[k].blocks.length c] 38))) q xs[k].blocks:=HS.out.mono ((Below.refl _ _).alloc (Nat.le_refl _) _) (by omega) fun _ _ h=>h.below ((Below.refl _ _).alloc (Nat.le_refl _) _)
  have HS1:=q8 hS1
  clear hS1
  by_cases h2:300<xm xs[k]
  ·have hm:kC xs[k]=true:=by simp [kC,h2]
   have HE:Hid (xM xs=(10,(k:Int))):=ZQ hlt hm fun j hj hjk=>HV.out j hj hjk
   clear hm
   go_wp2_with (go_at_call 55;refine (ZR xs[k] _ _ _ (by omega) HS1.out).mono ?_;rintro e w1 ⟨rfl,hb1⟩;have hRw:=qg hb1 (k:=w.heap.size+1) (by simp;omega) (qh HRr.out);obtain ⟨hlw,hlC⟩:=blk hRw;have zr1:=qd hRw;have hFw:=qg hb1 (k:=wr.heap.size) (by simp) (qx _ _);obtain ⟨hfc,hff⟩:=blk hFw;have zf:=qd hFw;have HB1:=q8 hb1;have HRw:=q8 hRw;clear hb1 hRw hFw)
   refine bodyPost_ret (v:=.agg #[.int .i64 10,.int .i64 k]) ?_ rfl ⟨by rw [HE.out],?_⟩
   ·obtain ⟨hh,_⟩:=blk (qj (qj HRw.out 0 (.int .i64 10)) 1 (.int .i64 k))
    have h0:=hh 0
    have h1:=hh 1
    simp [results,Tryz.results22,go_sem,h0,h1]
   have hbz:Below w.heap.size w w1:=(HBx.out.alloc (by omega) (.cells #[.string xs[k].name,.int .i64 xs[k].params,.int .i64 xs[k].regs,.slice q xs[k].blocks.length c] 38)).trans (HB1.out.mono (by simp;omega))
   exact (hbz.setCell (p:=⟨w.heap.size+1,0,none⟩) (Nat.le_succ _) _).setCell (p:=⟨w.heap.size+1,1,none⟩) (Nat.le_succ _) _
  by_cases h3:100<xs[k].regs
  ·have hm:kC xs[k]=true:=by simp [kC,h3]
   have HE:Hid (xM xs=(10,(k:Int))):=ZQ hlt hm fun j hj hjk=>HV.out j hj hjk
   clear hm
   go_wp2_with (go_at_call 55;refine (ZR xs[k] _ _ _ (by omega) HS1.out).mono ?_;rintro e w1 ⟨rfl,hb1⟩;have hRw:=qg hb1 (k:=w.heap.size+1) (by simp;omega) (qh HRr.out);obtain ⟨hlw,hlC⟩:=blk hRw;have zr1:=qd hRw;have hFw:=qg hb1 (k:=wr.heap.size) (by simp) (qx _ _);obtain ⟨hfc,hff⟩:=blk hFw;have zf:=qd hFw;have HB1:=q8 hb1;have HRw:=q8 hRw;clear hb1 hRw hFw)
   refine bodyPost_ret (v:=.agg #[.int .i64 10,.int .i64 k]) ?_ rfl ⟨by rw [HE.out],?_⟩
   ·obtain ⟨hh,_⟩:=blk (qj (qj HRw.out 0 (.int .i64 10)) 1 (.int .i64 k))
    have h0:=hh 0
    have h1:=hh 1
    simp [results,Tryz.results22,go_sem,h0,h1]
   have hbz:Below w.heap.size w w1:=(HBx.out.alloc (by omega) (.cells #[.string xs[k].name,.int .i64 xs[k].params,.int .i64 xs[k].regs,.slice q xs[k].blocks.length c] 38)).trans (HB1.out.mono (by simp;omega))
   exact (hbz.setCell (p:=⟨w.heap.size+1,0,none⟩) (Nat.le_succ _) _).setCell (p:=⟨w.heap.size+1,1,none⟩) (Nat.le_succ _) _
  have hm:kC xs[k]=false:=by simp [kC];omega
  have HM:=q8 hm
  clear hm
  go_wp2_with (go_at_call 55;refine (ZR xs[k] _ _ _ (by omega) HS1.out).mono ?_;rintro e w1 ⟨rfl,hb1⟩;have hRw:=qg hb1 (k:=w.heap.size+1) (by simp;omega) (qh HRr.out);obtain ⟨hlw,hlC⟩:=blk hRw;have zr1:=qd hRw;have hFw:=qg hb1 (k:=wr.heap.size) (by simp) (qx _ _);obtain ⟨hfc,hff⟩:=blk hFw;have zf:=qd hFw;have HB1:=q8 hb1;have HRw:=q8 hRw;clear hb1 hRw hFw)
  refine ⟨⟨k+1,by omega,by go_num,fun j hj hjk=>?_,(HBw.out.alloc (by omega) (.cells #[.string xs[k].name,.int .i64 xs[k].params,.int .i64 xs[k].regs,.slice q xs[k].blocks.length c] 38)).trans (HB1.out.mono (by simp;omega))⟩,by simp [intOf];omega⟩
  by_cases hj2:j<k
  ·exact HV.out j hj hj2
  obtain rfl:j=k:=by omega
  exact HM.out

theorem growI_any (n:Nat) (w:World) (hn:n≤1000000) :
  Calls Tryz.prog 54 #[.slice none 0 0,.int .i64 n] w fun e w'=>∃v,e = .returned v∧w'.ownsRow w.heap.size 51 8 v 0 []∧Below w.heap.size w w':=by
 obtain ⟨iI,l1,l2,l3,l4⟩:=info_parts vx
 go_enter Tryz.func54,Tryz.ntmps54
 by_cases h0:0<n
 ·have hr:=fun ty=>Lib.run_append_nil_zeros (P:=Tryz.prog) w 42 3 ty 51 iI _ .i64 .i64 Tryz.underlying42 Tryz.underlying3 l1 l2 n h0 (by rw [l3];omega) (by omega) (by rw [l4];omega)
  have HR:=q8 hr
  clear hr
  go_wp2_with (at_builtin;refine Lib.wpList_append_run _ rfl _ _ _ _ rfl _ _ rfl rfl _ _ (HR.out _) ?_)
  go_ret
  refine ⟨_,rfl,⟨rfl,.inr ⟨w.heap.size,_,_,rfl,Nat.le_refl _,heap_alloc_new _ _,Nat.zero_le _,grownCap_le_maxLen w n 0 _ (by unfold maxLen;omega),?_,by simp⟩⟩,?_⟩
  ·have:=grownCap_ge w n 0 51
   simp [size_zeroCells]
   omega
  exact ⟨rfl,rfl,rfl,by simp,fun j hj=>heap_alloc_old w _ hj⟩
 obtain rfl:n=0:=by omega
 go_wp2_with fail
 go_ret
 exact ⟨_,rfl,⟨rfl,.inl ⟨rfl,rfl⟩⟩,Below.refl _ _⟩
theorem ZS {P:Program} (w:World) (base:Nat) (t ty e:TypeId) (i:TypeInfo) (ht:P.underlying t=some (.slice e)) (hi:P.info? e=some i) (v:Value) (n c size:Nat) (xs:List Value) (hown:w.ownsRow base e size v n xs) :
  (Builtin.append_ #[t,t] ty #[v,.slice none 0 c]).run P w = .ok v w:=by
 rcases hown.2 with ⟨rfl,rfl⟩|⟨g,cap,cur,rfl,_,_,hnc,_⟩
 ·simp [Builtin.append_,run_underlying ht,Go.sizeOf,typeInfo,hi,Builtin.lenOf,Builtin.firstCells]
 simp [Builtin.append_,run_underlying ht,Go.sizeOf,typeInfo,hi,Builtin.lenOf,Builtin.firstCells,hnc,storeCells]
theorem grown_bel {w W W':World} {v:Value} {e:TypeId} {size n:Nat} {xs:List Value} (h:Below w.heap.size w W) (ho:W.ownsRow w.heap.size e size v n xs) (hg:W.grownBy W' v.ownBlock):Below w.heap.size w W':=by
 refine ⟨hg.os.trans h.os,hg.tape.trans h.tape,hg.output.trans h.output,Nat.le_trans h.size hg.size,fun j hj=>(hg.block j (Nat.lt_of_lt_of_le hj h.size) ?_).trans (h.block j hj)⟩
 rcases ho.2 with ⟨rfl,_⟩|⟨g,_,_,rfl,hb,_⟩
 ·intro e;cases e
 intro e
 have e:j=g:=by injection e
 omega

def kD (N:Nat→Nat) (k:Nat):Nat:=((List.range k).map N).sum
theorem j6 (N:Nat→Nat) (k:Nat):kD N (k+1)=kD N k+N k:=by simp [kD,List.range_succ]
theorem Vk {N:Nat→Nat} {a b:Nat} (h:a≤b):kD N a≤kD N b:=by
 induction b with
 | zero=>
  obtain rfl:a=0:=by omega
  exact Nat.le_refl _
 | succ b ih=>
  rw [j6]
  rcases Nat.lt_or_ge a (b+1) with h1|h1
  ·have:=ih (by omega);omega
  obtain rfl:a=b+1:=by omega
  rw [j6];exact Nat.le_refl _

theorem Js (B m c:Nat) (Q:Nat→Option Addr) (N C:Nat→Nat) (X:Nat→List Value) (w:World) (hm:m≤1000000) (hs:∀k,k<m→w.cell? ⟨B,k,none⟩=some (.slice (Q k) (N k) (C k)))
  (hl:∀k,k<m→(X k).length=N k*8) (h1:∀k,k<m→∀u∈X k,u.oneCell'=true) (hq:∀k,k<m→Q k=none→N k=0)
  (hc:∀k,k<m→∀a,Q k=some a→∀j u,(X k)[j]?=some u→w.cell? (a.add j)=some u) (ht:kD N m≤1000000) :
  Calls Tryz.prog 21 #[.slice (some ⟨B,0,none⟩) m c] w fun e w'=>∃v,e = .returned v∧w'.ownsRow w.heap.size 51 8 v (kD N m) ((List.range m).flatMap X)∧Below w.heap.size w w':=by
 obtain ⟨iI,l1,l2,l3,l4⟩:=info_parts vx
 have HSl:=q8 hs
 have HL:=q8 hl
 have hoK:=q8 h1
 have HQ:=q8 hq
 have HC:=q8 hc
 clear hs hl h1 hq hc
 go_enter Tryz.func21,Tryz.ntmps21
 go_wp2
 go_loopw [3,11] (fun s i wr=>∃k:Nat,k≤m∧i = .int .i64 k∧s = .int .i64 (kD N k:Nat)∧w=wr) (fun _ i _=>m - (intOf i).toNat)
 case atStart=>exact ⟨0,by omega,rfl,rfl,rfl⟩
 case round=>
  obtain ⟨k,hk,rfl,rfl,rfl⟩:=hrel
  by_cases hlt:k<m
  ·have e0:=HSl.out k hlt
   have hle:=Vk (N:=N) (show k+1≤m by omega)
   rw [j6] at hle
   go_wp2_with fail
   refine ⟨⟨k+1,by omega,by go_num,by rw [j6];go_num,trivial⟩,by simp [intOf];omega⟩
  obtain rfl:k=m:=by omega
  go_wp2_with (go_at_call 54;refine (growI_any _ _ ht).mono ?_;rintro e w1 ⟨v0,rfl,hown,hb1⟩)
  have HO:=q8 hown
  have HB1:=q8 hb1
  clear hown hb1
  go_loopw [6,27] (fun v i wr=>∃j:Nat,j≤k∧i = .int .i64 j∧wr.ownsRow w.heap.size 51 8 v (kD N j) ((List.range j).flatMap X)∧Below w.heap.size w wr) (fun _ i _=>k - (intOf i).toNat)
  case atStart=>exact ⟨0,by omega,rfl,by simpa [kD] using HO.out,HB1.out⟩
  case round=>
   obtain ⟨j,hj,rfl,hown,hb⟩:=hrel
   have HO:=q8 hown
   have HB:=q8 hb
   clear hown hb
   by_cases hlj:j<k
   rotate_left
   ·obtain rfl:j=k:=by omega
    go_wp2_with fail
    go_ret
    exact ⟨_,rfl,HO.out,HB.out⟩
   have e0:=(HB.out.cell (p:=⟨B,j,none⟩) (q9 (HSl.out j hlj))).trans (HSl.out j hlj)
   have z0:=q9 e0
   have hle:=Vk (N:=N) (show j+1≤k by omega)
   rw [j6] at hle
   have hap:∀ty,∃v' w',(Builtin.append_ #[42,42] ty #[u6,.slice (Q j) (N j) (C j)]).run Tryz.prog wr = .ok v' w'∧w'.ownsRow w.heap.size 51 8 v' (kD N (j+1)) ((List.range (j+1)).flatMap X)∧Below w.heap.size w w':=fun ty=>by
    have e1:(List.range (j+1)).flatMap X=(List.range j).flatMap X++X j:=by simp [List.range_succ]
    rw [e1,j6]
    cases hQ:Q j with
    | none=>
     have h0:=HQ.out j hlj hQ
     have hx0:X j=[]:=List.eq_nil_of_length_eq_zero (by rw [HL.out j hlj,h0])
     rw [h0,hx0,List.append_nil]
     exact ⟨u6,wr,ZS wr _ _ ty _ iI Tryz.underlying42 l1 u6 _ _ 8 _ HO.out,HO.out,HB.out⟩
    | some a=>
     obtain ⟨v',w',hr,ho,hg,_,_⟩:=run_append_own_at (P:=Tryz.prog) wr w.heap.size 42 ty 51 iI _ 8 80 Tryz.underlying42 l1 l2 l3 l4 rfl (by omega) u6 _ _ HO.out a (N j) (C j) (X j) (HL.out j hlj) (fun i u hu=>by
      have hcc:=HC.out j hlj a hQ i u hu
      exact (HB.out.cell (p:=a.add i) (Nat.lt_of_not_le fun h=>by
       have e:w.cell? (a.add i)=none:=by simp [World.cell?,Array.getElem?_eq_none h]
       rw [e] at hcc
       cases hcc)).trans hcc) (hoK.out j hlj) (by unfold maxLen;omega) (by omega) HB.out.size
     exact ⟨v',w',hr,ho,grown_bel HB.out HO.out hg⟩
   have HAp:=q8 hap
   clear hap
   obtain ⟨v',w',hr,ho,hb'⟩:=HAp.out 42
   have HR:=q8 hr
   have HO2:=q8 ho
   have HB2:=q8 hb'
   clear hr ho hb'
   go_wp2_with (at_builtin;refine Lib.wpList_append_run _ rfl _ _ _ _ rfl _ _ rfl rfl _ _ HR.out ?_)
   exact ⟨⟨j+1,by omega,by go_num,HO2.out,HB2.out⟩,by simp [intOf];omega⟩

theorem ChkOk.funC {u:UniL} (h:ChkOk u) {k:Nat} (hk:k<u.funcs.length):FunC u.funcs.length (ZY u) u.funcs[k]:=by
 obtain ⟨h1,h2,h3,h4⟩:=h.fn hk
 refine ⟨by omega,by omega,h1,h2,h4,fun b hb=>endC_iff.1 (bodyE_end (h.bodyZ hk) hb),fun b hb p hp=>phiC_iff.1 ((Xt (h.bodyZ hk) hb).1 p hp),fun b hb x hx=>(Xt (h.bodyZ hk) hb).2 x hx⟩
theorem FunC.body {u:UniL} {f:FunL} (h:FunC u.funcs.length (ZY u) f):jL u f=0:=by
 have h1:qA (f.blocks.map fun b=>JM f b.fin)=0:=zC fun x hx=>by
  obtain ⟨b,hb,rfl⟩:=List.mem_map.1 hx
  obtain ⟨i,hi,rfl⟩:=List.mem_iff_getElem.1 hb
  exact endC_iff.2 (h.fin i hi)
 unfold jL
 rw [if_pos h1]
 refine zC fun x hx=>?_
 obtain ⟨i,hi,rfl⟩:=List.mem_map.1 hx
 have hi:=List.mem_range.1 hi
 rw [Qm hi]
 have h2:qA (f.blocks[i].phis.map (Xd f i (qZ (xr f) i).length))=0:=zC fun x hx=>by
  obtain ⟨p,hp,rfl⟩:=List.mem_map.1 hx
  exact phiC_iff.2 (h.phi i hi p hp)
 unfold blkE
 rw [if_pos h2]
 refine zC fun x hx=>?_
 obtain ⟨p,hp,rfl⟩:=List.mem_map.1 hx
 exact h.ins i hi p hp
theorem headE_of {names:List ByteArray} {f g:FunL} (h:jQ names f=0) (hn:g.name=f.name) {nf:Nat} {P:Nat→Int} (hg:FunC nf P g):jQ names g=0:=by
 unfold jQ at h ⊢
 rw [hn]
 by_cases a:jO f.name=false
 ·rw [if_pos a] at h;cases h
 rw [if_neg a] at h ⊢
 by_cases b:XR names f.name=true
 ·rw [if_pos b] at h;cases h
 rw [if_neg b]
 have h1:=hg.par
 have h2:=hg.reg
 have h3:=hg.n1
 have h4:=hg.n40
 have h5:=hg.many
 rw [if_neg (by omega),if_neg (by omega)]

def mainO (o:Option FunL):Bool:=match o with|some f=>kI f|none=>false
theorem mainI_o (xs:List FunL):vL xs=(List.range xs.length).find? fun i=>mainO xs[i]?:=rfl
theorem ChkOk.same {u v:UniL} (h:ChkOk u) (hg:v.globals=u.globals) (hl:v.funcs.length=u.funcs.length) (hf:∀k (hk:k<u.funcs.length),v.funcs[k].name=u.funcs[k].name∧v.funcs[k].params=u.funcs[k].params∧FunC u.funcs.length (ZY u) v.funcs[k]):chk v=(0,0)∧ChkOk v:=by
 have hp:ZY v=ZY u:=by
  funext k
  unfold ZY
  congr 1
  refine List.ext_getElem (by simp [hl]) fun i h1 h2=>?_
  simp only [List.getElem_map]
  exact (hf i (by simpa using h2)).2.1
 have hN:∀k,k≤u.funcs.length→xO v k=xO u k:=fun k hk=>by
  unfold xO
  rw [hg]
  congr 1
  refine List.ext_getElem (by simp [hl]) fun i h1 h2=>?_
  simp only [List.getElem_map,List.getElem_take]
  exact (hf i (by simp at h2;omega)).1
 have e1:∀j,j<v.globals.length→Xe v j=0:=fun j hj=>by
  have:Xe v j=Xe u j:=by
   unfold Xe j8 j7
   rw [hg]
  rw [this]
  exact h.glo j (by rw [←hg];exact hj)
 have e2:∀j,j<v.funcs.length→kg v j=0:=fun j hj=>by
  have hj':j<u.funcs.length:=by omega
  rw [kh hj,hN j (by omega)]
  exact headE_of ((kh hj').symm.trans (h.head j hj')) (hf j hj').1 (hf j hj').2.2
 have e3:∀j,j<v.funcs.length→kH v j=0:=fun j hj=>by
  have hj':j<u.funcs.length:=by omega
  rw [Zu hj]
  refine FunC.body ?_
  rw [hp,hl]
  exact (hf j hj').2.2
 have e4:vL v.funcs=vL u.funcs:=by
  rw [mainI_o,mainI_o,hl]
  congr 1
  funext i
  by_cases hi:i<u.funcs.length
  ·rw [List.getElem?_eq_getElem hi,List.getElem?_eq_getElem (by omega)]
   show kI _=kI _
   unfold kI
   rw [(hf i hi).1]
  rw [List.getElem?_eq_none (by omega),List.getElem?_eq_none (by omega)]
 obtain ⟨m,hm,hm2⟩:=h.main
 have hv:ChkOk v:=⟨by rw [hg];exact h.ng,by rw [hl];exact h.nf,e1,e2,e3,m,e4.trans hm,by rw [hp];exact hm2⟩
 refine ⟨?_,hv⟩
 rcases Xj v with g|g
 ·exact g.1
 exfalso
 apply g
 unfold chk chkO
 rw [if_neg (by have:=hv.ng;have:=hv.nf;omega),zI e1,zI e2,zI e3]
 simp only [Qo]
 rw [e4.trans hm]
 simp only
 rw [if_neg (by rw [hp];omega)]
 rfl

theorem vI (f:FunL):(doT f).name=f.name∧(doT f).params=f.params:=by
 have hj:∀(f:FunL) (b t:Nat),(x8 f b t).name=f.name∧(x8 f b t).params=f.params:=fun f b t=>⟨rfl,rfl⟩
 have hc:∀(c:Nat) (f:FunL) (b:Nat),(qW c f b).name=f.name∧(qW c f b).params=f.params:=by
  intro c
  induction c with
  | zero=>intro f b;exact ⟨rfl,rfl⟩
  | succ c ih=>
   intro f b
   unfold qW
   split
   ·exact ⟨rfl,rfl⟩
   rename_i t _
   exact ⟨(ih _ b).1.trans (hj f b t).1,(ih _ b).2.trans (hj f b t).2⟩
 have hs:∀f:FunL,(qQ f).name=f.name∧(qQ f).params=f.params:=fun f=>by
  unfold qQ
  generalize f.blocks.length+1=c
  have key:∀(l:List Nat) (g:FunL),(l.foldl (fun g b=>qW c g b) g).name=g.name∧(l.foldl (fun g b=>qW c g b) g).params=g.params:=by
   intro l
   induction l with
   | nil=>intro g;exact ⟨rfl,rfl⟩
   | cons b l ih=>intro g;rw [List.foldl_cons];exact ⟨(ih _).1.trans (hc c g b).1,(ih _).2.trans (hc c g b).2⟩
  exact key _ f
 have ho:∀g:FunL,(jN g).name=g.name∧(jN g).params=g.params:=fun g=>by unfold jN zi;exact ⟨rfl,rfl⟩
 have hn:∀g:FunL,(qH g).name=g.name∧(qH g).params=g.params:=fun g=>by unfold qH;exact ⟨rfl,rfl⟩
 unfold doT xV
 rw [(hn _).1,(hn _).2,(ho _).1,(ho _).2,(hs _).1,(hs _).2,(ho _).1,(ho _).2]
 exact ⟨rfl,rfl⟩

theorem ChkOk.tidy {u:UniL} (h:ChkOk u):chk (qG u)=(0,0)∧ChkOk (qG u):=
 h.same rfl (by simp [qG]) fun k hk=>by
  have e:(qG u).funcs[k]'(by simp [qG];exact hk)=doT u.funcs[k]:=by simp [qG]
  rw [e]
  exact ⟨(vI _).1,(vI _).2,(h.funC hk).done⟩
theorem FunC.small {nf:Nat} {P:Nat→Int} {f:FunL} (h:FunC nf P f):largeT f=false:=by
 unfold largeT
 have h1:=h.reg
 have h4:=h.n40
 have h5:=h.many
 rw [decide_eq_false_iff_not]
 omega

def kT {α:Type} (h:α→α) (k:Nat) (xs:List α):List (Bool×α):=xs.mapIdx fun i x=>(decide (i<k),if i<k then h x else x)
theorem je {α:Type} (h:α→α) (k:Nat) (xs:List α):(kT h k xs).length=xs.length:=by simp [kT]
theorem kE {α:Type} {h:α→α} {k i:Nat} {xs:List α} (hi:i<(kT h k xs).length):(kT h k xs)[i]=(decide (i<k),if i<k then h (xs[i]'(by rw [←je h k xs];exact hi)) else xs[i]'(by rw [←je h k xs];exact hi)):=by simp [kT]
theorem flagH_put {α:Type} {h:α→α} {k:Nat} {xs:List α} (hk:k<xs.length):(kT h k xs).set k (true,h xs[k])=kT h (k+1) xs:=by
 refine List.ext_getElem (by simp [kT]) fun i h1 h2=>?_
 have h3:i<xs.length:=by rw [je] at h2;exact h2
 rw [List.getElem_set,kE h2]
 by_cases e:k=i
 ·subst e
  rw [if_pos rfl,if_pos (by omega)]
  simp
 rw [if_neg e,kE (by rw [je];exact h3)]
 by_cases g:i<k
 ·rw [if_pos g,if_pos (by omega)]
  simp [g,(show i<k+1 by omega)]
 rw [if_neg g,if_neg (by omega)]
 simp [g,(show ¬ i<k+1 by omega)]
theorem SlO.flagH0 {α:Type} {e:TypeId} {size:Nat} {RO:ElemO α} {R:List Value→α→Prop} {w:World} {v:Value} {xs:List α} {S:Blks} {h:α→α} (g:SlO e size (DatO R) w v xs S):SlO e size (xS RO R) w v (kT h 0 xs) S:=
 g.imp (je h 0 xs) fun i h1 h2 cs T _ hr=>by
  rw [kE h2]
  exact hr
theorem SlO.flagHN {α:Type} {e:TypeId} {size:Nat} {RO:ElemO α} {R:List Value→α→Prop} {w:World} {v:Value} {xs:List α} {S:Blks} {h:α→α} (g:SlO e size (xS RO R) w v (kT h xs.length xs) S):SlO e size RO w v (xs.map h) S:=
 g.imp (by rw [je,List.length_map]) fun i h1 h2 cs T _ hr=>by
  have h3:i<xs.length:=by rw [List.length_map] at h2;exact h2
  rw [kE h1] at hr
  unfold xS at hr
  rw [if_pos (by simpa using h3)] at hr
  rw [List.getElem_map]
  rw [if_pos h3] at hr
  exact hr
theorem glo_one {w:World} (cs:List Value) (x:GloL) (h:GloR w cs x):∀u∈cs,u.oneCell'=true:=by
 obtain ⟨v,rfl,_,_,h⟩:=h
 obtain ⟨p,c,rfl,_⟩:=h.outC
 intro u hu
 simp only [List.mem_cons,List.not_mem_nil,or_false] at hu
 rcases hu with rfl|rfl|rfl<;>rfl
theorem fun_one {w:World} (cs:List Value) (x:FunL) (h:FunR w cs x):∀u∈cs,u.oneCell'=true:=by
 obtain ⟨v,rfl,_,_,_,h⟩:=h
 obtain ⟨p,c,rfl,_⟩:=h.outC
 intro u hu
 simp only [List.mem_cons,List.not_mem_nil,or_false] at hu
 rcases hu with rfl|rfl|rfl|rfl<;>rfl
def quad (w:World) (g o:Nat) (a0 a1 a2 a3:Value):World:=(((w.setCell ⟨g,o,none⟩ a0).setCell ⟨g,o+1,none⟩ a1).setCell ⟨g,o+2,none⟩ a2).setCell ⟨g,o+3,none⟩ a3
theorem quad_kept (w:World) (g o:Nat) (a0 a1 a2 a3:Value):Kept (fun i=>i=g) w (quad w g o a0 a1 a2 a3):=by
 unfold quad
 have h0:Kept (fun i=>i=g) w w:=Kept.refl _ w
 have h1:=h0.setCell (p:=⟨g,o,none⟩) rfl a0
 have h2:=h1.setCell (p:=⟨g,o+1,none⟩) rfl a1
 have h3:=h2.setCell (p:=⟨g,o+2,none⟩) rfl a2
 exact h3.setCell (p:=⟨g,o+3,none⟩) rfl a3
theorem RowPut.quad {w w1:World} {e:TypeId} {g o:Nat} {cs:List Value} (h:RowPut w w1 e g o 4 cs) (hl:cs.length=4) (a0 a1 a2 a3:Value):RowPut w (Go.Proofs.YtgjjhadbjmcnpaaGreatDoor.quad w1 g o a0 a1 a2 a3) e g o 4 [a0,a1,a2,a3]:=by
 obtain ⟨c0,c1,c2,c3,rfl⟩:=Vr hl
 have h0:=RowPut.set h rfl (j:=0) (by omega) a0
 simp only [Nat.add_zero,List.set_cons_zero] at h0
 have h1:=RowPut.set h0 rfl (j:=1) (by omega) a1
 simp only [List.set_cons_succ,List.set_cons_zero] at h1
 have h2:=RowPut.set h1 rfl (j:=2) (by omega) a2
 simp only [List.set_cons_succ,List.set_cons_zero] at h2
 have h3:=RowPut.set h2 rfl (j:=3) (by omega) a3
 simp only [List.set_cons_succ,List.set_cons_zero] at h3
 unfold Go.Proofs.YtgjjhadbjmcnpaaGreatDoor.quad
 exact h3

theorem jo (nm:ByteArray) (params regs:Int) (bb bo bc n:Nat) (TS:List (List Int)) (w:World) (hn:n≤40)
  (hB:∀i,i<n→XX w bb bo i (TS.getD i []))
  (hE:∀i,i<n→(TS.getD i []).length≤2∧∀t∈TS.getD i [],1≤t∧t<n) :
  Calls Tryz.prog 95 #[.agg #[.string nm,.int .i64 params,.int .i64 regs,.slice (some ⟨bb,bo,none⟩) n bc]] w fun e w'=>
   (∃f:Nat→Value,e = .returned (.slice (some ⟨w.heap.size+1,0,none⟩) n n)∧Rows2 w' (w.heap.size+1+1) (w.heap.size+1) n 45 3 (qT TS n) f)∧Below w.heap.size w w':=by
 obtain ⟨i1,k1,k2,k3,k4⟩:=info_parts infoInt
 obtain ⟨i2,l1,l2,l3,l4⟩:=info_parts JL
 have hmk:=run_make_row 65 45 i2 (.slice none 0 0) Xc l1 l2 l3 rfl .i64 .i64 n (by rw [l4];omega) (by omega)
 have HB:Hid (∀i,i<n→XX w bb bo i (TS.getD i [])):=hB
 have HE:Hid (∀i,i<n→(TS.getD i []).length≤2∧∀t∈TS.getD i [],1≤t∧t<n):=hE
 clear hB hE
 go_enter Tryz.func95,Tryz.ntmps95
 go_wp2
 go_loopw [15] (fun i wr=>∃k:Nat,k≤n∧i = .int .i64 k∧(∃f,Rows2 wr (w.heap.size+1+1) (w.heap.size+1) n 45 3 (qT TS k) f)∧Below w.heap.size w wr) (fun i _=>n - (intOf i).toNat)
 case atStart=>exact ⟨0,by omega,rfl,⟨_,by have:=Rows2.made (w.alloc (.cells #[.string nm,.int .i64 params,.int .i64 regs,.slice (some ⟨bb,bo,none⟩) n bc] 38)) n 45 3;simpa [qT] using this⟩,by exact bZ⟩
 case round=>
  obtain ⟨k,hk,rfl,⟨f,hR⟩,hb⟩:=hrel
  have HBw:Hid (Below w.heap.size w wr):=hb
  have HR:Hid (Rows2 wr (w.heap.size+1+1) (w.heap.size+1) n 45 3 (qT TS k) f):=hR
  have hsz:w.heap.size+1<wr.heap.size:=hR.tab.lt
  clear hb hR
  by_cases hlt:k<n
  rotate_left
  ·go_wp2
   go_ret
   obtain rfl:k=n:=by omega
   exact ⟨⟨f,rfl,HR.out⟩,HBw.out⟩
  obtain ⟨p1,m1,c1,p2,m2,c2,kk,r,m,p,c,e0,e1,e2,e3,e4,e5,hto⟩:=HB.out k hlt
  have hbb:=q9 e0
  rw [←HBw.out.cell (p:=⟨bb,bo+k*6,none⟩) hbb] at e0
  rw [←HBw.out.cell (p:=⟨bb,bo+k*6+1,none⟩) hbb] at e1
  rw [←HBw.out.cell (p:=⟨bb,bo+k*6+2,none⟩) hbb] at e2
  rw [←HBw.out.cell (p:=⟨bb,bo+k*6+3,none⟩) hbb] at e3
  rw [←HBw.out.cell (p:=⟨bb,bo+k*6+4,none⟩) hbb] at e4
  rw [←HBw.out.cell (p:=⟨bb,bo+k*6+5,none⟩) hbb] at e5
  obtain ⟨hl2,hts⟩:=HE.out k hlt
  have HTO:Hid (SliceAt w 1 vX p (TS.getD k [])):=hto
  have HTS:Hid (∀t∈TS.getD k [],1≤t∧t<n):=hts
  clear hto hts
  generalize hto:TS.getD k []=tq at *
  have HK:Hid (TS.getD k []=tq):=hto
  clear hto
  go_wp2
  go_loopw [24] (fun i wq=>∃j:Nat,j≤tq.length∧i = .int .i64 j∧(∃f,Rows2 wq (w.heap.size+1+1) (w.heap.size+1) n 45 3 (qT TS k++(tq.map fun t=>(t.toNat,k)).take j) f)∧Below w.heap.size w wq) (fun i _=>tq.length - (intOf i).toNat)
  case atStart=>exact ⟨0,by omega,rfl,⟨f,by simpa using HR.out.alloc _⟩,by have:=HBw.out;exact this.alloc (by omega) _⟩
  case round=>
   clear HR HBw e0 e1 e2 e3 e4 e5
   obtain ⟨j,hj,rfl,⟨f,hR⟩,hb⟩:=hrel
   have HBw:Hid (Below w.heap.size w wr):=hb
   have HR:Hid (Rows2 wr (w.heap.size+1+1) (w.heap.size+1) n 45 3 (qT TS k++(tq.map fun t=>(t.toNat,k)).take j) f):=hR
   have hsz:w.heap.size+1<wr.heap.size:=hR.tab.lt
   clear hb hR
   by_cases hjl:j<tq.length
   rotate_left
   ·go_wp2
    obtain rfl:j=tq.length:=by omega
    refine ⟨⟨k+1,by omega,by go_num,⟨f,?_⟩,HBw.out⟩,by simp [intOf];omega⟩
    have HR2:=HR.out
    rw [List.take_of_length_le (by simp)] at HR2
    unfold qT
    rw [HK.out]
    exact HR2
   obtain ⟨t,ht⟩:∃t:Nat,tq[j]=(t:Int):=⟨tq[j].toNat,by have:=(HTS.out _ (List.getElem_mem hjl)).1;omega⟩
   have htn:t<n:=by have:=(HTS.out _ (List.getElem_mem hjl)).2;omega
   obtain ⟨tb,tof,hp,htc⟩:∃tb tof,p=some ⟨tb,tof,none⟩∧wr.cell? ⟨tb,tof+j,none⟩=some (.int .i64 t):=by
    rcases HTO.out with h0|⟨tb,tof,hp,hc⟩
    ·rw [h0] at hjl;simp at hjl
    refine ⟨tb,tof,hp,?_⟩
    obtain ⟨cs,_,hc,⟨rfl,_⟩⟩:=hc j hjl
    have h2:=hc 0 (by omega)
    simp only [Nat.mul_one,Nat.add_zero,List.getElem?_cons_zero] at h2
    rw [HBw.out.cell (p:=⟨tb,tof+j,none⟩) (q9 h2),h2,ht]
   subst hp
   have hrow:=HR.out.row t htn
   obtain ⟨q,qc,hq⟩:∃q qc,f t = .slice q (qZ (qT TS k++(tq.map fun t=>(t.toNat,k)).take j) t).length qc:=by
    rcases hrow.2 with ⟨h1,h2⟩|⟨g,cap,cur,h1,_⟩
    ·refine ⟨none,0,?_⟩
     rw [h1,h2]
    exact ⟨_,_,h1⟩
   have HQ:Hid (f t = .slice q (qZ (qT TS k++(tq.map fun t=>(t.toNat,k)).take j) t).length qc):=hq
   have hfc:=HR.out.tab.cell htn
   have hff:=HR.out.tab.frozen t
   rw [hq] at hfc hrow
   clear hq
   have HT:Hid (tq[j]?=some (t:Int)):=by show _=_;rw [List.getElem?_eq_getElem hjl,ht]
   clear ht
   have hm2:(qZ (qT TS k++(tq.map fun t=>(t.toNat,k)).take j) t).length≤2*k+2:=by
    have h1:=Qd (qT TS k++(tq.map fun t=>(t.toNat,k)).take j) t
    have h2:=ke TS k n hk (fun i hi=>(HE.out i hi).1)
    rw [List.length_append,List.length_take,List.length_map] at h1
    omega
   generalize hm:(qZ (qT TS k++(tq.map fun t=>(t.toNat,k)).take j) t).length=m at *
   have HM:Hid ((qZ (qT TS k++(tq.map fun t=>(t.toNat,k)).take j) t).length=m):=hm
   clear hm
   go_wp2_with (at_builtin;refine wpList_append_own_at _ rfl _ _ 45 rfl (w.heap.size+1+1) 3 i1 (.int .i64 0) 1 8 Xb k1 k2 k3 k4 rfl (by decide) _ _ _ rfl (hrow.alloc _) ⟨wr.heap.size,0,none⟩ 1 1 [.int .i64 k] rfl rfl (cell_one_new _ _ _) (by simp [Value.oneCell']) ?_ ?_ ?_ ?_)
   ·unfold maxLen;omega
   ·omega
   ·simp;omega
   intro v' w1 hown' hgrow _ hat
   have HP:=(HR.out.alloc (.cells #[.int .i64 k] 3)).put (i:=k) (by simp;omega) htn (v':=v') (w':=w1) (by rw [HM.out];exact hown') (by rw [HQ.out];exact hgrow) (by rw [HQ.out];simpa using hat)
   obtain ⟨q2,c2',hv2⟩:∃q2 c2,v' = .slice q2 (m+1) c2:=by
    rcases hown'.2 with ⟨h1,h2⟩|⟨g,cap,cur,h1,_⟩
    ·omega
    exact ⟨_,_,h1⟩
   subst hv2
   obtain ⟨hc1,hf1⟩:=(HR.out.alloc (.cells #[.int .i64 k] 3)).atTab htn (w':=w1) (by rw [HQ.out];exact hgrow)
   rw [HQ.out] at hc1
   have hbw:=(HBw.out.alloc (by omega) (.cells #[.int .i64 k] 3)).grown hgrow (by simp;omega) (fun kk e=>by have:=(hrow.lt kk e).1;omega)
   have HB2:=q8 hbw
   have HP2:=q8 HP
   clear HP hown' hgrow hat hfc hff htc hrow hbw
   go_wp2
   refine ⟨⟨j+1,by omega,by go_num,⟨fun i=>if i=t then Value.slice q2 (m+1) c2' else f i,?_⟩,?_⟩,by simp [intOf];omega⟩
   ·rw [List.take_add_one,List.getElem?_map,HT.out]
    have HP3:=HP2.out
    rw [List.append_assoc] at HP3
    exact HP3
   exact HB2.out.setCell (by show _≤w.heap.size+1;omega) _
end Go.Proofs.YtgjjhadbjmcnpaaGreatDoor
