/-
  The contract of turneryref5.Clone.
-/
import Derived.Test.YtecdphhdmjmmnaaGreatDoorJRcA
set_option maxRecDepth 100000
set_option maxHeartbeats 16000000
namespace Go.Proofs.YtecdphhdmjmmnaaGreatDoor
open Go.RowKit

theorem Jg (b:BlkL) (q1 q2 q3:Option Addr) (e1 e2 e3:Nat) (w:World) (hn:SlF w 2 32 (PhiR w) (.slice q1 b.phis.length e1) b.phis) (hI:SlF w 8 80 (InsR w) (.slice q2 b.list.length e2) b.list) (hT:SlF w 1 8 xC (.slice q3 b.fin.to.length e3) b.fin.to) (i1:I64 b.fin.kind) (i2:I64 b.fin.onn) :
  Calls Tryz.prog 66 #[.agg #[.slice q1 b.phis.length e1,.slice q2 b.list.length e2,.int .i64 b.fin.kind,.bool b.fin.onr,.int .i64 b.fin.onn,.slice q3 b.fin.to.length e3]] w fun e w'=>(∃p1 c1 p2 c2 p3 c3,e = .returned (.agg #[.slice p1 b.phis.length c1,.slice p2 b.list.length c2,.int .i64 b.fin.kind,.bool b.fin.onr,.int .i64 b.fin.onn,.slice p3 b.fin.to.length c3])∧
   ∃S,BlkO w' [.slice p1 b.phis.length c1,.slice p2 b.list.length c2,.int .i64 b.fin.kind,.bool b.fin.onr,.int .i64 b.fin.onn,.slice p3 b.fin.to.length c3] b S∧LoB w.heap.size S)∧Below w.heap.size w w':=by
 obtain⟨iP,k1,k2,k3,k4⟩:=info_parts ZE
 obtain⟨iI,l1,l2,l3,l4⟩:=info_parts vC
 have hlp:b.phis.length*32≤140737488351232:=hn.bdC
 have hli:b.list.length*80≤140737488351232:=hI.bdC
 have HBd:=q7 (And.intro hn.bdC (And.intro hI.bdC hT.bdC))
 have hnp:SliceAt w 2 (PhiR w) q1 b.phis:=by obtain⟨_,_,e,_,_,h⟩:=hn.outC;cases e;exact h
 have hni:SliceAt w 8 (InsR w) q2 b.list:=by obtain⟨_,_,e,_,_,h⟩:=hI.outC;cases e;exact h
 obtain⟨q3',e3',hq3,hqn,_,hqs⟩:=hT.outC
 cases hq3
 have HN:=q7 hnp
 have HI:=q7 hni
 have HT:=q7 (And.intro hqn hqs)
 have HI1:=q7 i1
 have HI2:=q7 i2
 clear hn hI hT i1 i2 hnp hni hqn hqs
 go_enter Tryz.func66,Tryz.ntmps66
 go_wp2_with (at_builtin;refine vm rfl _ _ rfl rfl b.fin.to q3 e3 rfl ?hsl HT.out.1 HBd.out.2.2 ?_)
 case hsl=>exact HT.out.2.mono bZ (by omega) fun _ _ g=>g
 intro p3 c3 w3 S3 hS3 hL3 hb3
 have hz3:w.heap.size+1+1+1≤w3.heap.size:=by have:=hb3.size;simpa using this
 have hB3:Below w.heap.size w w3:=Below.trans bZ (hb3.mono (by first|omega|(simp;omega)|simp))
 have hP3:=qd hb3 (k:=w.heap.size) (by first|omega|(simp;omega)|simp) (qj (qj (qh (w:=w) (o:=.cells #[.slice q1 b.phis.length e1,.slice q2 b.list.length e2,.int .i64 b.fin.kind,.bool b.fin.onr,.int .i64 b.fin.onn,.slice q3 b.fin.to.length e3] 48) rfl)))
 have hZ3:=qd hb3 (k:=w.heap.size+1) (by first|omega|(simp;omega)|simp) (qj (qh (w:=w.alloc (.cells #[.slice q1 b.phis.length e1,.slice q2 b.list.length e2,.int .i64 b.fin.kind,.bool b.fin.onr,.int .i64 b.fin.onn,.slice q3 b.fin.to.length e3] 48)) (o:=.cells #[.slice none 0 0,.slice none 0 0,.int .i64 0,.bool false,.int .i64 0,.slice none 0 0] 48) (by simp)))
 have hO3:=qd hb3 (k:=w.heap.size+1+1) (by first|omega|(simp;omega)|simp) (qh (w:=(w.alloc (.cells #[.slice q1 b.phis.length e1,.slice q2 b.list.length e2,.int .i64 b.fin.kind,.bool b.fin.onr,.int .i64 b.fin.onn,.slice q3 b.fin.to.length e3] 48)).alloc (.cells #[.slice none 0 0,.slice none 0 0,.int .i64 0,.bool false,.int .i64 0,.slice none 0 0] 48)) (o:=.cells #[.slice none 0 0,.slice none 0 0,.int .i64 b.fin.kind,.bool b.fin.onr,.int .i64 b.fin.onn,.slice q3 b.fin.to.length e3] 48) (by simp))
 have o5:w3.cell? ⟨w.heap.size+1+1,5,none⟩=some (.slice q3 b.fin.to.length e3):=(blk hO3).1 5
 have of:=(blk hO3).2
 have oz:=q9 hO3
 have pc:w3.cell? ⟨w.heap.size,0,none⟩=some (.slice q1 b.phis.length e1):=(blk hP3).1 0
 have pz:=q9 hP3
 have HL3:Hid (∀k,S3 k→w.heap.size+1+1+1≤k):=q7 fun k h=>by have:=hL3 k h;simpa using this
 have HB3:=q7 hB3
 have HP3:=q7 hP3
 have HZ3:=q7 hZ3
 have HO3:=q7 hO3
 have ho9:=q7 hS3
 clear hS3 hL3 hb3 hB3 hP3 hZ3 hO3
 have htZ:¬ w.heap.size=w.heap.size+1+1:=by omega
 go_wp2_with fail
 obtain⟨W0,hW0⟩:∃W0,W0=w3.setCell ⟨w.heap.size+1+1,5,none⟩ (.slice p3 b.fin.to.length c3):=⟨_,rfl⟩
 rw[←hW0]
 have hz0:W0.heap.size=w3.heap.size:=by rw[hW0,Go.Deep.nblk_setCell]
 have hhw:∀k,k≠w.heap.size+1+1→W0.heap[k]?=w3.heap[k]?:=fun k hk=>by rw[hW0];exact Go.Deep.blk_setCell_other _ ⟨w.heap.size+1+1,5,none⟩ _ k hk
 have hku:Hid (Below w.heap.size w W0):=q7 (by rw[hW0];exact HB3.out.setCell (by show w.heap.size≤w.heap.size+1+1;omega) _)
 have HO:Hid (W0.heap[w.heap.size+1+1]?=some (.cells #[.slice none 0 0,.slice none 0 0,.int .i64 b.fin.kind,.bool b.fin.onr,.int .i64 b.fin.onn,.slice p3 b.fin.to.length c3] 48 (0,0))):=q7 (by rw[hW0,qg HO3.out 5 _];rfl)
 have hbU:=q7 ((hhw w.heap.size (by omega)).trans HP3.out)
 have HZ:=q7 ((hhw (w.heap.size+1) (by omega)).trans HZ3.out)
 have HS3:=q7 (SlQ.loc qT ho9.out (fun _ h=>h) (fun k hk=>hhw k (fun e=>by have:=HL3.out k hk;omega)) (by omega))
 clear hW0 hhw o5 of oz pc pz HP3 HZ3 HO3 ho9
 go_loopw [4] (fun i wr=>∃(k:Nat) (v:Value),k≤b.phis.length∧i = .int .i64 k∧(∃S,SlO 101 2 PhiO wr v (b.phis.take k) S∧LoB W0.heap.size S)∧wr.heap[w.heap.size+1+1]?=some (.cells #[v,.slice none 0 0,.int .i64 b.fin.kind,.bool b.fin.onr,.int .i64 b.fin.onn,.slice p3 b.fin.to.length c3] 48 (0,0))∧Kept (fun k=>k=w.heap.size+1+1) W0 wr) (fun i _=>b.phis.length - (intOf i).toNat)
 case atStart=>exact⟨0,.slice none 0 0,by omega,rfl,⟨fun _=>False,SlO.nil _ _ _ _ (fun _ h=>h.elim),fun _ h=>h.elim⟩,HO.out,Kept.refl _ _⟩
 case round=>
  obtain⟨k,v,hk,rfl,⟨S,hO,hL⟩,hA,hK⟩:=hrel
  obtain⟨p,c,hv,_⟩:=hO.val
  rw[List.length_take_of_le hk]at hv
  subst hv
  have HO:=q7 hO
  have HL:=q7 hL
  have HK:=q7 hK
  have HA1:=q7 hA
  have hsz:=hK.size
  have HBw:Hid (Below w.heap.size w wr):=hku.out.trans (hK.below (by omega) (fun _ e=>by omega))
  have hPa:=(HK.out.block w.heap.size (by omega) (by omega)).trans hbU.out
  have pc:wr.cell? ⟨w.heap.size,0,none⟩=some (.slice q1 b.phis.length e1):=(blk hPa).1 0
  have pz:=q9 hPa
  clear hO hL hK hA hPa
  by_cases hlt:k<b.phis.length
  ·obtain⟨bp,op,cs,hp,_,hc,pv,rfl,hd,hs⟩:=HN.out.get hlt
   subst hp
   obtain⟨qi,di,rfl,hq0,_,hql,hqs⟩:=hs
   have hc0:=hc 0 (by omega)
   have hc1:=hc 1 (by omega)
   have hbp:=q8 hc0
   have x0:=(HBw.out.cell (p:=⟨bp,_,none⟩) hbp).trans hc0
   have x1:=(HBw.out.cell (p:=⟨bp,_,none⟩) hbp).trans hc1
   simp only[List.getElem?_cons_zero,List.getElem?_cons_succ,Nat.add_zero]at x0 x1
   have HQ:=q7 (And.intro hq0 (And.intro hql hqs))
   have HD:=q7 hd
   clear hc hc0 hc1 hq0 hql hqs hd
   have hoz:=q9 HA1.out
   have g1:(0:Int)≤(k:Int):=by omega
   have g2:(k:Int)<b.phis.length:=by omega
   go_wp2_with (at_builtin;refine vl rfl _ _ rfl rfl b.phis[k].src qi di rfl ?hsl HQ.out.1 HQ.out.2.1 ?_)
   case hsl=>exact HQ.out.2.2.mono (HBw.out.trans bZ) (by omega) fun _ _ g=>g
   intro p' c' w5 S2 hS2 hL2 hb5
   have hr5:Below wr.heap.size wr w5:=Below.trans bZ (hb5.mono (by simp))
   have hu:=qd hb5 (k:=wr.heap.size) (by simp) (qr wr _)
   obtain⟨hu0,hu1⟩:=blk hu
   have zu:=(Array.getElem?_eq_some_iff.1 hu).1
   have hA5:=qd hr5 (k:=w.heap.size+1+1) hoz HA1.out
   have ho0:w5.cell? ⟨w.heap.size+1+1,0,none⟩=some (.slice p k c):=(blk hA5).1 0
   have hof:=(blk hA5).2
   have zo:=q9 hA5
   have HA5:=q7 hA5
   have hL2':∀k,S2 k→wr.heap.size+1≤k:=fun k h=>by have:=hL2 k h;simpa using this
   have HS2:=q7 hS2
   have HL2:=q7 hL2'
   have HR5:=q7 hr5
   have hep:=hr5.size
   have hne:w.heap.size+1+1≠wr.heap.size:=by omega
   have hN5:¬ S wr.heap.size:=fun h=>by have:=HO.out.inb _ h;omega
   have hN2:¬ S2 wr.heap.size:=fun h=>by have:=HL2.out _ h;omega
   have HO5:=q7 ((HO.out.below zq HR5.out).set_alloc zq (n:=wr.heap.size) (j:=1) hN5 (.slice p' b.phis[k].src.length c') (.cells #[.int .i64 b.phis[k].dst,.slice p' b.phis[k].src.length c'] 101))
   have HS5:=q7 (HS2.out.set_alloc zT (n:=wr.heap.size) (j:=1) hN2 (.slice p' b.phis[k].src.length c') (.cells #[.int .i64 b.phis[k].dst,.slice p' b.phis[k].src.length c'] 101))
   have HA8:=q7 (show((w5.setCell ⟨wr.heap.size,1,none⟩ (.slice p' b.phis[k].src.length c')).alloc (.cells #[.int .i64 b.phis[k].dst,.slice p' b.phis[k].src.length c'] 101)).heap[w.heap.size+1+1]?=some (.cells #[.slice p k c,.slice none 0 0,.int .i64 b.fin.kind,.bool b.fin.onr,.int .i64 b.fin.onn,.slice p3 b.fin.to.length c3] 48 (0,0)) from
    qj ((Go.Deep.blk_setCell_other w5 ⟨wr.heap.size,1,none⟩ _ (w.heap.size+1+1) hne).trans HA5.out))
   clear hb5 hr5 hu hS2 hL2 hL2' hA5 hN5 hN2
   go_wp2_with (at_builtin;refine qD _ rfl _ _ 40 rfl 101 iP _ 2 32 Tryz.underlying40 k1 k2 k3 k4 rfl (by decide) zq rfl HO5.out ⟨w5.heap.size,0,none⟩ 1 [.int .i64 b.phis[k].dst,.slice p' b.phis[k].src.length c'] b.phis[k] rfl rfl ?hn ?ho (T:=S2) ⟨_,rfl,HD.out,HS5.out⟩ ?ha ?ht ?hm ?hb ?_)
   case hn=>exact qS _ _ _ (by simp[World.setCell])
   case ho=>intro u hu;simp only[List.mem_cons,List.not_mem_nil,or_false]at hu;rcases hu with rfl|rfl<;>rfl
   case ha=>exact fun k h1 h2=>by have:=HO.out.inb k h1;have:=HL2.out k h2;omega
   case ht=>exact HS2.out.sl.inb.set_alloc _ _ _
   case hm=>unfold maxLen;simp;omega
   case hb=>simp;omega
   intro v2 w8 ⟨S',hO8,hsub,hK8⟩
   obtain⟨pv,cv,hv2,_⟩:=hO8.val
   have hv3:v2 = .slice pv (k+1) cv:=by rw[hv2];congr 1;simp;omega
   clear hv2
   subst hv3
   have hSn:∀i,i<W0.heap.size→¬ S i:=fun i hi h=>by have:=HL.out i h;omega
   have hA9:=(hK8.block (w.heap.size+1+1) (q9 HA8.out) (hSn _ (by omega))).trans HA8.out
   have ho0:w8.cell? ⟨w.heap.size+1+1,0,none⟩=some (.slice p k c):=(blk hA9).1 0
   have hof:=(blk hA9).2
   have zo:=q9 hA9
   have hrel:(∃S,SlO 101 2 PhiO (w8.setCell ⟨w.heap.size+1+1,0,none⟩ (.slice pv (k+1) cv)) (.slice pv (k+1) cv) (b.phis.take (k+1)) S∧LoB W0.heap.size S)∧(w8.setCell ⟨w.heap.size+1+1,0,none⟩ (.slice pv (k+1) cv)).heap[w.heap.size+1+1]?=some (.cells #[.slice pv (k+1) cv,.slice none 0 0,.int .i64 b.fin.kind,.bool b.fin.onr,.int .i64 b.fin.onn,.slice p3 b.fin.to.length c3] 48 (0,0))∧Kept (fun k=>k=w.heap.size+1+1) W0 (w8.setCell ⟨w.heap.size+1+1,0,none⟩ (.slice pv (k+1) cv)):=by
    have hlo:LoB W0.heap.size S':=fun i hi=>by
     rcases hsub i hi with h|h|h
     ·exact HL.out i h
     ·have:=HL2.out i h;omega
     simp[World.setCell]at h;omega
    refine⟨⟨S',?_,hlo⟩,?_,?_⟩
    ·have hO9:SlO 101 2 PhiO w8 (.slice pv (k+1) cv) (b.phis.take (k+1)) S':=by first|exact hO8|(rw[List.take_succ_eq_append_getElem hlt];exact hO8)
     exact hO9.loc zq (fun i hi=>Go.Deep.blk_setCell_other _ _ _ _ (fun e=>by have:=hlo i hi;have e2:i=w.heap.size+1+1:=e;omega)) (by simp[World.setCell])
    ·rw[qg hA9 0 _]
     rfl
    have kA:Kept (fun k=>k=w.heap.size+1+1) W0 ((w5.setCell ⟨wr.heap.size,1,none⟩ (.slice p' b.phis[k].src.length c')).alloc (.cells #[.int .i64 b.phis[k].dst,.slice p' b.phis[k].src.length c'] 101)):=HK.out.trans (Kept.of_below (S:=fun _=>False) ((HR5.out.setCell (by simp) _).alloc (by simp[World.setCell];omega) _)) (fun _ _ h=>h.elim)
    exact(kA.trans hK8 (fun i hi h=>absurd h (hSn i hi))).setCell rfl _
   have ha7:=q7 hrel
   clear hA9 hO8 hsub hK8 hrel
   go_wp2_with fail
   exact⟨⟨k+1,.slice pv (k+1) cv,by omega,by go_num,ha7.out.1,ha7.out.2.1,ha7.out.2.2⟩,by simp[intOf];omega⟩
  obtain rfl:k=b.phis.length:=by omega
  rw[List.take_length]at HO
  obtain⟨W1,hW1⟩:∃W1,W1=wr:=⟨_,rfl⟩
  obtain⟨S1,hS1⟩:∃S1,S1=S:=⟨_,rfl⟩
  obtain⟨p5,hp5⟩:∃p5,p5=p:=⟨_,rfl⟩
  obtain⟨c5,hc5⟩:∃c5,c5=c:=⟨_,rfl⟩
  rw[←hp5,←hc5]at HO HA1
  clear hp5 hc5
  obtain⟨vA,hvA⟩:∃vA,vA=Value.slice p5 b.phis.length c5:=⟨_,rfl⟩
  have hfY:=q7 HBw.out
  have haR:=q7 ((HK.out.block w.heap.size (by omega) (by omega)).trans hbU.out)
  have HOp:=q7 HO.out
  have HLp:=q7 HL.out
  have HK1:=q7 HK.out
  have HA2:=q7 HA1.out
  have pc2:wr.cell? ⟨w.heap.size,1,none⟩=some (.slice q2 b.list.length e2):=(blk haR.out).1 1
  rw[←hS1]at HOp HLp
  go_wp2_with fail
  rw[←hW1]
  rw[←hW1]at hfY haR HOp HK1 HA2 hsz
  rw[←hvA]at HA2
  clear pc2 pc pz HBw HO HL HK HA1 hW1 hS1
  go_loopw [6] (fun i wr=>∃(k:Nat) (v:Value),k≤b.list.length∧i = .int .i64 k∧(∃S,SlO 53 8 InsO wr v (b.list.take k) S∧LoB W1.heap.size S)∧wr.heap[w.heap.size+1+1]?=some (.cells #[vA,v,.int .i64 b.fin.kind,.bool b.fin.onr,.int .i64 b.fin.onn,.slice p3 b.fin.to.length c3] 48 (0,0))∧Kept (fun k=>k=w.heap.size+1+1) W1 wr) (fun i _=>b.list.length - (intOf i).toNat)
  case atStart=>exact⟨0,.slice none 0 0,by omega,rfl,⟨fun _=>False,SlO.nil _ _ _ _ (fun _ h=>h.elim),fun _ h=>h.elim⟩,HA2.out,Kept.refl _ _⟩
  case round=>
   obtain⟨k,v,hk,rfl,⟨S,hO,hL⟩,hA,hK⟩:=hrel
   obtain⟨p,c,hv,_⟩:=hO.val
   rw[List.length_take_of_le hk]at hv
   subst hv
   have HO:=q7 hO
   have HL:=q7 hL
   have HK:=q7 hK
   have HA1:=q7 hA
   have hsz:=hK.size
   have HBw:Hid (Below w.heap.size w wr):=hfY.out.trans (hK.below (by omega) (fun _ e=>by omega))
   have hPa:=(HK.out.block w.heap.size (by omega) (by omega)).trans haR.out
   have pc:wr.cell? ⟨w.heap.size,1,none⟩=some (.slice q2 b.list.length e2):=(blk hPa).1 1
   have pz:=q9 hPa
   clear hO hL hK hA hPa
   by_cases hlt:k<b.list.length
   rotate_left
   ·obtain rfl:k=b.list.length:=by omega
    rw[List.take_length]at HO
    subst hvA
    have hOf:=HA1.out
    have r0:wr.cell? ⟨w.heap.size+1+1,0,none⟩=some (.slice p5 b.phis.length c5):=(blk hOf).1 0
    have r1:wr.cell? ⟨w.heap.size+1+1,1,none⟩=some (.slice p b.list.length c):=(blk hOf).1 1
    have r2:wr.cell? ⟨w.heap.size+1+1,2,none⟩=some (.int .i64 b.fin.kind):=(blk hOf).1 2
    have r3:wr.cell? ⟨w.heap.size+1+1,3,none⟩=some (.bool b.fin.onr):=(blk hOf).1 3
    have r4:wr.cell? ⟨w.heap.size+1+1,4,none⟩=some (.int .i64 b.fin.onn):=(blk hOf).1 4
    have r5:wr.cell? ⟨w.heap.size+1+1,5,none⟩=some (.slice p3 b.fin.to.length c3):=(blk hOf).1 5
    have hZ:=(HK.out.block (w.heap.size+1) (by omega) (by omega)).trans ((HK1.out.block (w.heap.size+1) (by omega) (by omega)).trans HZ.out)
    have rf:=(blk hZ).2
    have rz:=fun j=>(blk hZ).1 j
    have rl:=q9 hZ
    have z0:wr.cell? ⟨w.heap.size+1,0,none⟩=some (.slice none 0 0):=rz 0
    have z1:wr.cell? ⟨w.heap.size+1,1,none⟩=some (.slice none 0 0):=rz 1
    have z2:wr.cell? ⟨w.heap.size+1,2,none⟩=some (.int .i64 0):=rz 2
    have z3:wr.cell? ⟨w.heap.size+1,3,none⟩=some (.bool false):=rz 3
    have z4:wr.cell? ⟨w.heap.size+1,4,none⟩=some (.int .i64 0):=rz 4
    have z5:wr.cell? ⟨w.heap.size+1,5,none⟩=some (.slice none 0 0):=rz 5
    clear rz
    go_wp2_with fail
    obtain⟨WF,hWF⟩:∃WF,WF=(((((wr.setCell ⟨w.heap.size+1,0,none⟩ (.slice p5 b.phis.length c5)).setCell ⟨w.heap.size+1,1,none⟩ (.slice p b.list.length c)).setCell ⟨w.heap.size+1,2,none⟩ (.int .i64 b.fin.kind)).setCell ⟨w.heap.size+1,3,none⟩ (.bool b.fin.onr)).setCell ⟨w.heap.size+1,4,none⟩ (.int .i64 b.fin.onn)).setCell ⟨w.heap.size+1,5,none⟩ (.slice p3 b.fin.to.length c3):=⟨_,rfl⟩
    rw[←hWF]
    have hF1:WF.heap[w.heap.size+1]?=some (.cells #[.slice p5 b.phis.length c5,.slice p b.list.length c,.int .i64 b.fin.kind,.bool b.fin.onr,.int .i64 b.fin.onn,.slice p3 b.fin.to.length c3] 48 (0,0)):=by
     rw[hWF,qg (qg (qg (qg (qg (qg hZ 0 _) 1 _) 2 _) 3 _) 4 _) 5 _]
     rfl
    have hFo:∀k,k≠w.heap.size+1→WF.heap[k]?=wr.heap[k]?:=fun k h1=>by
     rw[hWF]
     repeat rw[Go.Deep.blk_setCell_other _ _ _ _ (by assumption)]
    have hFs:WF.heap.size=wr.heap.size:=by rw[hWF];simp[World.setCell]
    have hFb:Below w.heap.size w WF:=by
     rw[hWF]
     exact(((((HBw.out.setCell (by simp) _).setCell (by simp) _).setCell (by simp) _).setCell (by simp) _).setCell (by simp) _).setCell (by simp) _
    clear hWF
    have k0:=(blk hF1).1 0
    have k1':=(blk hF1).1 1
    have k2':=(blk hF1).1 2
    have k3':=(blk hF1).1 3
    have k4':=(blk hF1).1 4
    have k5':=(blk hF1).1 5
    have hOp:=(HOp.out.kept zq HK.out (fun i e hi=>by have:=HLp.out i hi;omega)).loc (w':=WF) zq (fun i hi=>hFo i (fun e=>by have:=HLp.out i hi;omega)) (by omega)
    have hOl:=HO.out.loc (w':=WF) qH (fun i hi=>hFo i (fun e=>by have:=HL.out i hi;omega)) (by omega)
    have hO3:=((HS3.out.sl.kept qT HK1.out (fun i e hi=>by have:=HS3.out.sl.inb i hi;have:=HL3.out i hi;omega)).kept qT HK.out (fun i e hi=>by have:=HL3.out i hi;omega)).loc (w':=WF) qT (fun i hi=>hFo i (fun e=>by have:=HL3.out i hi;omega)) (by omega)
    refine bodyPost_ret (v:=.agg #[.slice p5 b.phis.length c5,.slice p b.list.length c,.int .i64 b.fin.kind,.bool b.fin.onr,.int .i64 b.fin.onn,.slice p3 b.fin.to.length c3]) ?_ rfl ⟨⟨p5,c5,p,c,p3,c3,rfl,fun k=>S1 k∨S k∨S3 k,⟨_,_,_,S1,S,S3,rfl,HI1.out,HI2.out,⟨hOp,HBd.out.1⟩,⟨hOl,HBd.out.2.1⟩,⟨hO3,HBd.out.2.2⟩,fun k x y=>?_,fun k x y=>?_,fun k x y=>?_,fun _ h=>.inl h,fun _ h=>.inr (.inl h),fun _ h=>.inr (.inr h)⟩,fun i hi=>?_⟩,hFb⟩
    ·simp[results,Tryz.results66,go_sem,k0,k1',k2',k3',k4',k5']
    ·have:=HOp.out.inb k x;have:=HL.out k y;omega
    ·have:=HLp.out k x;have:=HS3.out.sl.inb k y;omega
    ·have:=HL.out k x;have:=HS3.out.sl.inb k y;omega
    rcases hi with h|h|h
    ·have:=HLp.out i h;omega
    ·have:=HL.out i h;omega
    have:=HL3.out i h;omega
   obtain⟨bp,op,cs,hp,_,hc,pv,rfl,hd1,hd2,hd3,hd4,hd5,hs⟩:=HI.out.get hlt
   subst hp
   obtain⟨qi,di,rfl,hq0,_,hql,hqs⟩:=hs
   have hc0:=hc 0 (by omega)
   have hc1:=hc 1 (by omega)
   have hc2:=hc 2 (by omega)
   have hc3:=hc 3 (by omega)
   have hc4:=hc 4 (by omega)
   have hc5:=hc 5 (by omega)
   have hc6:=hc 6 (by omega)
   have hc7:=hc 7 (by omega)
   have hbp:=q8 hc0
   have x0:=(HBw.out.cell (p:=⟨bp,_,none⟩) hbp).trans hc0
   have x1:=(HBw.out.cell (p:=⟨bp,_,none⟩) hbp).trans hc1
   have x2:=(HBw.out.cell (p:=⟨bp,_,none⟩) hbp).trans hc2
   have x3:=(HBw.out.cell (p:=⟨bp,_,none⟩) hbp).trans hc3
   have x4:=(HBw.out.cell (p:=⟨bp,_,none⟩) hbp).trans hc4
   have x5:=(HBw.out.cell (p:=⟨bp,_,none⟩) hbp).trans hc5
   have x6:=(HBw.out.cell (p:=⟨bp,_,none⟩) hbp).trans hc6
   have x7:=(HBw.out.cell (p:=⟨bp,_,none⟩) hbp).trans hc7
   simp only[List.getElem?_cons_zero,List.getElem?_cons_succ,Nat.add_zero]at x0 x1 x2 x3 x4 x5 x6 x7
   have HQ:=q7 (And.intro hq0 (And.intro hql hqs))
   have HD:=q7 (And.intro hd1 (And.intro hd2 (And.intro hd3 (And.intro hd4 hd5))))
   clear hc hc0 hc1 hc2 hc3 hc4 hc5 hc6 hc7 hq0 hql hqs hd1 hd2 hd3 hd4 hd5
   have hoz:=q9 HA1.out
   have g1:(0:Int)≤(k:Int):=by omega
   have g2:(k:Int)<b.list.length:=by omega
   go_wp2_with (at_builtin;refine vl rfl _ _ rfl rfl b.list[k].args qi di rfl ?hsl HQ.out.1 HQ.out.2.1 ?_)
   case hsl=>exact HQ.out.2.2.mono (HBw.out.trans bZ) (by omega) fun _ _ g=>g
   intro p' c' w5 S2 hS2 hL2 hb5
   have hr5:Below wr.heap.size wr w5:=Below.trans bZ (hb5.mono (by simp))
   have hu:=qd hb5 (k:=wr.heap.size) (by simp) (qr wr _)
   obtain⟨hu0,hu1⟩:=blk hu
   have zu:=(Array.getElem?_eq_some_iff.1 hu).1
   have hA5:=qd hr5 (k:=w.heap.size+1+1) hoz HA1.out
   have ho0:w5.cell? ⟨w.heap.size+1+1,1,none⟩=some (.slice p k c):=(blk hA5).1 1
   have hof:=(blk hA5).2
   have zo:=q9 hA5
   have HA5:=q7 hA5
   have hL2':∀k,S2 k→wr.heap.size+1≤k:=fun k h=>by have:=hL2 k h;simpa using this
   have HS2:=q7 hS2
   have HL2:=q7 hL2'
   have HR5:=q7 hr5
   have hep:=hr5.size
   have hne:w.heap.size+1+1≠wr.heap.size:=by omega
   have hN5:¬ S wr.heap.size:=fun h=>by have:=HO.out.inb _ h;omega
   have hN2:¬ S2 wr.heap.size:=fun h=>by have:=HL2.out _ h;omega
   have HO5:=q7 ((HO.out.below qH HR5.out).set_alloc qH (n:=wr.heap.size) (j:=7) hN5 (.slice p' b.list[k].args.length c') (.cells #[.int .i64 b.list[k].op,.int .i64 b.list[k].dst,.bool b.list[k].ar,.int .i64 b.list[k].an,.bool b.list[k].br,.int .i64 b.list[k].bn,.int .i64 b.list[k].fn,.slice p' b.list[k].args.length c'] 53))
   have HS5:=q7 (HS2.out.set_alloc zT (n:=wr.heap.size) (j:=7) hN2 (.slice p' b.list[k].args.length c') (.cells #[.int .i64 b.list[k].op,.int .i64 b.list[k].dst,.bool b.list[k].ar,.int .i64 b.list[k].an,.bool b.list[k].br,.int .i64 b.list[k].bn,.int .i64 b.list[k].fn,.slice p' b.list[k].args.length c'] 53))
   have HA8:=q7 (show((w5.setCell ⟨wr.heap.size,7,none⟩ (.slice p' b.list[k].args.length c')).alloc (.cells #[.int .i64 b.list[k].op,.int .i64 b.list[k].dst,.bool b.list[k].ar,.int .i64 b.list[k].an,.bool b.list[k].br,.int .i64 b.list[k].bn,.int .i64 b.list[k].fn,.slice p' b.list[k].args.length c'] 53)).heap[w.heap.size+1+1]?=some (.cells #[vA,.slice p k c,.int .i64 b.fin.kind,.bool b.fin.onr,.int .i64 b.fin.onn,.slice p3 b.fin.to.length c3] 48 (0,0)) from
    qj ((Go.Deep.blk_setCell_other w5 ⟨wr.heap.size,7,none⟩ _ (w.heap.size+1+1) hne).trans HA5.out))
   clear hb5 hr5 hu hS2 hL2 hL2' hA5 hN5 hN2
   go_wp2_with (at_builtin;refine qD _ rfl _ _ 41 rfl 53 iI _ 8 80 Tryz.underlying41 l1 l2 l3 l4 rfl (by decide) qH rfl HO5.out ⟨w5.heap.size,0,none⟩ 1 [.int .i64 b.list[k].op,.int .i64 b.list[k].dst,.bool b.list[k].ar,.int .i64 b.list[k].an,.bool b.list[k].br,.int .i64 b.list[k].bn,.int .i64 b.list[k].fn,.slice p' b.list[k].args.length c'] b.list[k] rfl rfl ?hn ?ho (T:=S2) ⟨_,rfl,HD.out.1,HD.out.2.1,HD.out.2.2.1,HD.out.2.2.2.1,HD.out.2.2.2.2,HS5.out⟩ ?ha ?ht ?hm ?hb ?_)
   case hn=>exact qS _ _ _ (by simp[World.setCell])
   case ho=>intro u hu;simp only[List.mem_cons,List.not_mem_nil,or_false]at hu;rcases hu with rfl|rfl|rfl|rfl|rfl|rfl|rfl|rfl<;>rfl
   case ha=>exact fun k h1 h2=>by have:=HO.out.inb k h1;have:=HL2.out k h2;omega
   case ht=>exact HS2.out.sl.inb.set_alloc _ _ _
   case hm=>unfold maxLen;simp;omega
   case hb=>simp;omega
   intro v2 w8 ⟨S',hO8,hsub,hK8⟩
   obtain⟨pv,cv,hv2,_⟩:=hO8.val
   have hv3:v2 = .slice pv (k+1) cv:=by rw[hv2];congr 1;simp;omega
   clear hv2
   subst hv3
   have hSn:∀i,i<W1.heap.size→¬ S i:=fun i hi h=>by have:=HL.out i h;omega
   have hA9:=(hK8.block (w.heap.size+1+1) (q9 HA8.out) (hSn _ (by omega))).trans HA8.out
   have ho0:w8.cell? ⟨w.heap.size+1+1,1,none⟩=some (.slice p k c):=(blk hA9).1 1
   have hof:=(blk hA9).2
   have zo:=q9 hA9
   have hrel:(∃S,SlO 53 8 InsO (w8.setCell ⟨w.heap.size+1+1,1,none⟩ (.slice pv (k+1) cv)) (.slice pv (k+1) cv) (b.list.take (k+1)) S∧LoB W1.heap.size S)∧(w8.setCell ⟨w.heap.size+1+1,1,none⟩ (.slice pv (k+1) cv)).heap[w.heap.size+1+1]?=some (.cells #[vA,.slice pv (k+1) cv,.int .i64 b.fin.kind,.bool b.fin.onr,.int .i64 b.fin.onn,.slice p3 b.fin.to.length c3] 48 (0,0))∧Kept (fun k=>k=w.heap.size+1+1) W1 (w8.setCell ⟨w.heap.size+1+1,1,none⟩ (.slice pv (k+1) cv)):=by
    have hlo:LoB W1.heap.size S':=fun i hi=>by
     rcases hsub i hi with h|h|h
     ·exact HL.out i h
     ·have:=HL2.out i h;omega
     simp[World.setCell]at h;omega
    refine⟨⟨S',?_,hlo⟩,?_,?_⟩
    ·have hO9:SlO 53 8 InsO w8 (.slice pv (k+1) cv) (b.list.take (k+1)) S':=by first|exact hO8|(rw[List.take_succ_eq_append_getElem hlt];exact hO8)
     exact hO9.loc qH (fun i hi=>Go.Deep.blk_setCell_other _ _ _ _ (fun e=>by have:=hlo i hi;have e2:i=w.heap.size+1+1:=e;omega)) (by simp[World.setCell])
    ·rw[qg hA9 1 _]
     rfl
    have kA:Kept (fun k=>k=w.heap.size+1+1) W1 ((w5.setCell ⟨wr.heap.size,7,none⟩ (.slice p' b.list[k].args.length c')).alloc (.cells #[.int .i64 b.list[k].op,.int .i64 b.list[k].dst,.bool b.list[k].ar,.int .i64 b.list[k].an,.bool b.list[k].br,.int .i64 b.list[k].bn,.int .i64 b.list[k].fn,.slice p' b.list[k].args.length c'] 53)):=HK.out.trans (Kept.of_below (S:=fun _=>False) ((HR5.out.setCell (by simp) _).alloc (by simp[World.setCell];omega) _)) (fun _ _ h=>h.elim)
    exact(kA.trans hK8 (fun i hi h=>absurd h (hSn i hi))).setCell rfl _
   have ha7:=q7 hrel
   clear hA9 hO8 hsub hK8 hrel
   go_wp2_with fail
   exact⟨⟨k+1,.slice pv (k+1) cv,by omega,by go_num,ha7.out.1,ha7.out.2.1,ha7.out.2.2⟩,by simp[intOf];omega⟩
end Go.Proofs.YtecdphhdmjmmnaaGreatDoor
namespace Go.Proofs.YtecdphhdmjmmnaaGreatDoor
open Go.RowKit Go.Shelf

theorem Km (u:UniL) (q1 q2:Option Addr) (e1 e2:Nat) (w:World) (hG:SlF w 3 48 (GloR w) (.slice q1 u.globals.length e1) u.globals) (hF:SlF w 4 56 (FunR w) (.slice q2 u.funcs.length e2) u.funcs) :
  Calls Tryz.prog 34 #[.agg #[.slice q1 u.globals.length e1,.slice q2 u.funcs.length e2]] w fun e w'=>(∃p1 c1 p2 c2,e = .returned (.agg #[.slice p1 u.globals.length c1,.slice p2 u.funcs.length c2])∧
   ∃S,UniO w' [.slice p1 u.globals.length c1,.slice p2 u.funcs.length c2] u S∧LoB w.heap.size S)∧Below w.heap.size w w':=by
 obtain⟨iG,k1,k2,k3,k4⟩:=info_parts ZG
 obtain⟨iF,l1,l2,l3,l4⟩:=info_parts ZH
 obtain⟨iB,j1,j2,j3,j4⟩:=info_parts jC
 have hlg:u.globals.length*48≤140737488351232:=hG.bdC
 have hlf:u.funcs.length*56≤140737488351232:=hF.bdC
 have hGs:SliceAt w 3 (GloR w) q1 u.globals:=by obtain⟨_,_,e,_,_,h⟩:=hG.outC;cases e;exact h
 have hFs:SliceAt w 4 (FunR w) q2 u.funcs:=by obtain⟨_,_,e,_,_,h⟩:=hF.outC;cases e;exact h
 have HGs:=q7 hGs
 have HFs:=q7 hFs
 have HBd:=q7 (And.intro hG.bdC hF.bdC)
 clear hG hF hGs hFs
 go_enter Tryz.func34,Tryz.ntmps34
 go_wp2_with fail
 obtain⟨W0,hW0⟩:∃W0,W0=((w.alloc (.cells #[.slice q1 u.globals.length e1,.slice q2 u.funcs.length e2] 25)).alloc (.cells #[.slice none 0 0,.slice none 0 0] 25)).alloc (.cells #[.slice none 0 0,.slice none 0 0] 25):=⟨_,rfl⟩
 rw[←hW0]
 have hz0:W0.heap.size=w.heap.size+1+1+1:=by rw[hW0];simp
 have hku:Hid (Below w.heap.size w W0):=q7 (by rw[hW0];exact bZ)
 have hbU:Hid (W0.heap[w.heap.size]?=some (.cells #[.slice q1 u.globals.length e1,.slice q2 u.funcs.length e2] 25 (0,0))):=q7 (by rw[hW0];exact qj (qj (qh rfl)))
 have HZ:Hid (W0.heap[w.heap.size+1]?=some (.cells #[.slice none 0 0,.slice none 0 0] 25 (0,0))):=q7 (by rw[hW0];exact qj (qh (by simp)))
 have HO:Hid (W0.heap[w.heap.size+1+1]?=some (.cells #[.slice none 0 0,.slice none 0 0] 25 (0,0))):=q7 (by rw[hW0];exact qh (by simp))
 clear hW0
 go_loopw [4] (fun i wr=>∃(k:Nat) (v:Value),k≤u.globals.length∧i = .int .i64 k∧(∃S,SlO 68 3 GloO wr v (u.globals.take k) S∧LoB W0.heap.size S)∧wr.heap[w.heap.size+1+1]?=some (.cells #[v,.slice none 0 0] 25 (0,0))∧Kept (fun k=>k=w.heap.size+1+1) W0 wr) (fun i _=>u.globals.length - (intOf i).toNat)
 case atStart=>exact⟨0,.slice none 0 0,by omega,rfl,⟨fun _=>False,SlO.nil _ _ _ _ (fun _ h=>h.elim),fun _ h=>h.elim⟩,HO.out,Kept.refl _ _⟩
 case round=>
  obtain⟨k,v,hk,rfl,⟨S,hO,hL⟩,hA,hK⟩:=hrel
  obtain⟨p,c,hv,_⟩:=hO.val
  rw[List.length_take_of_le hk]at hv
  subst hv
  have HO:=q7 hO
  have HL:=q7 hL
  have HK:=q7 hK
  have HA1:=q7 hA
  have hsz:=hK.size
  have HBw:Hid (Below w.heap.size w wr):=hku.out.trans (hK.below (by omega) (fun _ e=>by omega))
  have hPa:=(HK.out.block w.heap.size (by omega) (by omega)).trans hbU.out
  have pc:wr.cell? ⟨w.heap.size,0,none⟩=some (.slice q1 u.globals.length e1):=(blk hPa).1 0
  have pz:=q9 hPa
  clear hO hL hK hA hPa
  by_cases hlt:k<u.globals.length
  ·obtain⟨bp,op,cs,hp,_,hc,pv,rfl,hd0,hd,hs⟩:=HGs.out.get hlt
   subst hp
   obtain⟨qi,di,rfl,hq0,_,hql,hqs⟩:=hs
   have hc0:=hc 0 (by omega)
   have hc1:=hc 1 (by omega)
   have hc2:=hc 2 (by omega)
   have hbp:=q8 hc0
   have x0:=(HBw.out.cell (p:=⟨bp,_,none⟩) hbp).trans hc0
   have x1:=(HBw.out.cell (p:=⟨bp,_,none⟩) hbp).trans hc1
   have x2:=(HBw.out.cell (p:=⟨bp,_,none⟩) hbp).trans hc2
   simp only[List.getElem?_cons_zero,List.getElem?_cons_succ,Nat.add_zero]at x0 x1 x2
   have HQ:=q7 (And.intro hq0 (And.intro hql hqs))
   have HD:=q7 (And.intro hd0 hd)
   clear hc hc0 hc1 hc2 hq0 hql hqs hd0 hd
   have hoz:=q9 HA1.out
   have g1:(0:Int)≤(k:Int):=by omega
   have g2:(k:Int)<u.globals.length:=by omega
   go_wp2_with (at_builtin;refine vm rfl _ _ rfl rfl u.globals[k].init qi di rfl ?hsl HQ.out.1 HQ.out.2.1 ?_)
   case hsl=>exact HQ.out.2.2.mono (HBw.out.trans bZ) (by omega) fun _ _ g=>g
   intro p' c' w5 S2 hS2 hL2 hb5
   have hr5:Below wr.heap.size wr w5:=Below.trans bZ (hb5.mono (by simp))
   have hu:=qd hb5 (k:=wr.heap.size) (by simp) (qr wr _)
   obtain⟨hu0,hu1⟩:=blk hu
   have zu:=(Array.getElem?_eq_some_iff.1 hu).1
   have hA5:=qd hr5 (k:=w.heap.size+1+1) hoz HA1.out
   have ho0:w5.cell? ⟨w.heap.size+1+1,0,none⟩=some (.slice p k c):=(blk hA5).1 0
   have hof:=(blk hA5).2
   have zo:=q9 hA5
   have HA5:=q7 hA5
   have hL2':∀k,S2 k→wr.heap.size+1≤k:=fun k h=>by have:=hL2 k h;simpa using this
   have HS2:=q7 hS2
   have HL2:=q7 hL2'
   have HR5:=q7 hr5
   have hep:=hr5.size
   have hne:w.heap.size+1+1≠wr.heap.size:=by omega
   have hN5:¬ S wr.heap.size:=fun h=>by have:=HO.out.inb _ h;omega
   have hN2:¬ S2 wr.heap.size:=fun h=>by have:=HL2.out _ h;omega
   have HO5:=q7 ((HO.out.below zC HR5.out).set_alloc zC (n:=wr.heap.size) (j:=2) hN5 (.slice p' u.globals[k].init.length c') (.cells #[.string u.globals[k].name,.int .i64 u.globals[k].size,.slice p' u.globals[k].init.length c'] 68))
   have HS5:=q7 (HS2.out.set_alloc qT (n:=wr.heap.size) (j:=2) hN2 (.slice p' u.globals[k].init.length c') (.cells #[.string u.globals[k].name,.int .i64 u.globals[k].size,.slice p' u.globals[k].init.length c'] 68))
   have HA8:=q7 (show((w5.setCell ⟨wr.heap.size,2,none⟩ (.slice p' u.globals[k].init.length c')).alloc (.cells #[.string u.globals[k].name,.int .i64 u.globals[k].size,.slice p' u.globals[k].init.length c'] 68)).heap[w.heap.size+1+1]?=some (.cells #[.slice p k c,.slice none 0 0] 25 (0,0)) from
    qj ((Go.Deep.blk_setCell_other w5 ⟨wr.heap.size,2,none⟩ _ (w.heap.size+1+1) hne).trans HA5.out))
   clear hb5 hr5 hu hS2 hL2 hL2' hA5 hN5 hN2
   go_wp2_with (at_builtin;refine qD _ rfl _ _ 22 rfl 68 iG _ 3 48 Tryz.underlying22 k1 k2 k3 k4 rfl (by decide) zC rfl HO5.out ⟨w5.heap.size,0,none⟩ 1 [.string u.globals[k].name,.int .i64 u.globals[k].size,.slice p' u.globals[k].init.length c'] u.globals[k] rfl rfl ?hn ?ho (T:=S2) ⟨_,rfl,HD.out.1,HD.out.2,HS5.out⟩ ?ha ?ht ?hm ?hb ?_)
   case hn=>exact qS _ _ _ (by simp[World.setCell])
   case ho=>intro u hu;simp only[List.mem_cons,List.not_mem_nil,or_false]at hu;rcases hu with rfl|rfl|rfl<;>rfl
   case ha=>exact fun k h1 h2=>by have:=HO.out.inb k h1;have:=HL2.out k h2;omega
   case ht=>exact HS2.out.sl.inb.set_alloc _ _ _
   case hm=>unfold maxLen;simp;omega
   case hb=>simp;omega
   intro v2 w8 ⟨S',hO8,hsub,hK8⟩
   obtain⟨pv,cv,hv2,_⟩:=hO8.val
   have hv3:v2 = .slice pv (k+1) cv:=by rw[hv2];congr 1;simp;omega
   clear hv2
   subst hv3
   have hSn:∀i,i<W0.heap.size→¬ S i:=fun i hi h=>by have:=HL.out i h;omega
   have hA9:=(hK8.block (w.heap.size+1+1) (q9 HA8.out) (hSn _ (by omega))).trans HA8.out
   have ho0:w8.cell? ⟨w.heap.size+1+1,0,none⟩=some (.slice p k c):=(blk hA9).1 0
   have hof:=(blk hA9).2
   have zo:=q9 hA9
   have hrel:(∃S,SlO 68 3 GloO (w8.setCell ⟨w.heap.size+1+1,0,none⟩ (.slice pv (k+1) cv)) (.slice pv (k+1) cv) (u.globals.take (k+1)) S∧LoB W0.heap.size S)∧(w8.setCell ⟨w.heap.size+1+1,0,none⟩ (.slice pv (k+1) cv)).heap[w.heap.size+1+1]?=some (.cells #[.slice pv (k+1) cv,.slice none 0 0] 25 (0,0))∧Kept (fun k=>k=w.heap.size+1+1) W0 (w8.setCell ⟨w.heap.size+1+1,0,none⟩ (.slice pv (k+1) cv)):=by
    have hlo:LoB W0.heap.size S':=fun i hi=>by
     rcases hsub i hi with h|h|h
     ·exact HL.out i h
     ·have:=HL2.out i h;omega
     simp[World.setCell]at h;omega
    refine⟨⟨S',?_,hlo⟩,?_,?_⟩
    ·have hO9:SlO 68 3 GloO w8 (.slice pv (k+1) cv) (u.globals.take (k+1)) S':=by first|exact hO8|(rw[List.take_succ_eq_append_getElem hlt];exact hO8)
     exact hO9.loc zC (fun i hi=>Go.Deep.blk_setCell_other _ _ _ _ (fun e=>by have:=hlo i hi;have e2:i=w.heap.size+1+1:=e;omega)) (by simp[World.setCell])
    ·rw[qg hA9 0 _]
     rfl
    have kA:Kept (fun k=>k=w.heap.size+1+1) W0 ((w5.setCell ⟨wr.heap.size,2,none⟩ (.slice p' u.globals[k].init.length c')).alloc (.cells #[.string u.globals[k].name,.int .i64 u.globals[k].size,.slice p' u.globals[k].init.length c'] 68)):=HK.out.trans (Kept.of_below (S:=fun _=>False) ((HR5.out.setCell (by simp) _).alloc (by simp[World.setCell];omega) _)) (fun _ _ h=>h.elim)
    exact(kA.trans hK8 (fun i hi h=>absurd h (hSn i hi))).setCell rfl _
   have ha7:=q7 hrel
   clear hA9 hO8 hsub hK8 hrel
   go_wp2_with fail
   exact⟨⟨k+1,.slice pv (k+1) cv,by omega,by go_num,ha7.out.1,ha7.out.2.1,ha7.out.2.2⟩,by simp[intOf];omega⟩
  obtain rfl:k=u.globals.length:=by omega
  rw[List.take_length]at HO
  obtain⟨W1,hW1⟩:∃W1,W1=wr:=⟨_,rfl⟩
  obtain⟨S1,hS1⟩:∃S1,S1=S:=⟨_,rfl⟩
  obtain⟨p5,hp5⟩:∃p5,p5=p:=⟨_,rfl⟩
  obtain⟨c5,hc5⟩:∃c5,c5=c:=⟨_,rfl⟩
  rw[←hp5,←hc5]at HO HA1
  clear hp5 hc5
  obtain⟨vg,hvg⟩:∃vg,vg=Value.slice p5 u.globals.length c5:=⟨_,rfl⟩
  have hfY:=q7 HBw.out
  have haR:=q7 ((HK.out.block w.heap.size (by omega) (by omega)).trans hbU.out)
  have HOg:=q7 HO.out
  have HLg:=q7 HL.out
  have HK1:=q7 HK.out
  have HA2:=q7 HA1.out
  have pc2:wr.cell? ⟨w.heap.size,1,none⟩=some (.slice q2 u.funcs.length e2):=(blk haR.out).1 1
  rw[←hS1]at HOg HLg
  go_wp2_with fail
  rw[←hW1]
  rw[←hW1]at hfY haR HOg HK1 HA2 hsz
  rw[←hvg]at HA2
  clear pc2 pc pz HBw HO HL HK HA1 hW1 hS1
  go_loopw [6] (fun i wr=>∃(k:Nat) (v:Value),k≤u.funcs.length∧i = .int .i64 k∧(∃S,SlO 37 4 FunO wr v (u.funcs.take k) S∧LoB W1.heap.size S)∧wr.heap[w.heap.size+1+1]?=some (.cells #[vg,v] 25 (0,0))∧Kept (fun k=>k=w.heap.size+1+1) W1 wr) (fun i _=>u.funcs.length - (intOf i).toNat)
  case atStart=>exact⟨0,.slice none 0 0,by omega,rfl,⟨fun _=>False,SlO.nil _ _ _ _ (fun _ h=>h.elim),fun _ h=>h.elim⟩,HA2.out,Kept.refl _ _⟩
  case round=>
   obtain⟨k,v,hk,rfl,⟨S,hO,hL⟩,hA,hK⟩:=hrel
   obtain⟨pf,cf,hv,_⟩:=hO.val
   rw[List.length_take_of_le hk]at hv
   subst hv
   have HO:=q7 hO
   have HL:=q7 hL
   have HK:=q7 hK
   have HA1:=q7 hA
   have hsz1:=hK.size
   have HBw:Hid (Below w.heap.size w wr):=hfY.out.trans (hK.below (by omega) (fun _ e=>by omega))
   have hPa:=(HK.out.block w.heap.size (by omega) (by omega)).trans haR.out
   have pc:wr.cell? ⟨w.heap.size,1,none⟩=some (.slice q2 u.funcs.length e2):=(blk hPa).1 1
   have pz:=q9 hPa
   have HPa:=q7 hPa
   clear hO hL hK hA hPa
   by_cases hlt:k<u.funcs.length
   rotate_left
   ·obtain rfl:k=u.funcs.length:=by omega
    rw[List.take_length]at HO
    subst hvg
    have r0:wr.cell? ⟨w.heap.size+1+1,0,none⟩=some (.slice p5 u.globals.length c5):=(blk HA1.out).1 0
    have r1:wr.cell? ⟨w.heap.size+1+1,1,none⟩=some (.slice pf u.funcs.length cf):=(blk HA1.out).1 1
    have hZ:=(HK.out.block (w.heap.size+1) (by omega) (by omega)).trans ((HK1.out.block (w.heap.size+1) (by omega) (by omega)).trans HZ.out)
    have rz0:wr.cell? ⟨w.heap.size+1,0,none⟩=some (.slice none 0 0):=(blk hZ).1 0
    have rz1:wr.cell? ⟨w.heap.size+1,1,none⟩=some (.slice none 0 0):=(blk hZ).1 1
    have rf:=(blk hZ).2
    have hzl:=q9 hZ
    go_wp2_with fail
    obtain⟨WF,hWF⟩:∃WF,WF=(wr.setCell ⟨w.heap.size+1,0,none⟩ (.slice p5 u.globals.length c5)).setCell ⟨w.heap.size+1,1,none⟩ (.slice pf u.funcs.length cf):=⟨_,rfl⟩
    rw[←hWF]
    have hF1:WF.heap[w.heap.size+1]?=some (.cells #[.slice p5 u.globals.length c5,.slice pf u.funcs.length cf] 25 (0,0)):=by
     rw[hWF,qg (qg hZ 0 _) 1 _]
     rfl
    have hFo:∀k,k≠w.heap.size+1→WF.heap[k]?=wr.heap[k]?:=fun k h1=>by
     rw[hWF]
     repeat rw[Go.Deep.blk_setCell_other _ _ _ _ (by assumption)]
    have hFs:WF.heap.size=wr.heap.size:=by rw[hWF];simp[World.setCell]
    have hFb:Below w.heap.size w WF:=by
     rw[hWF]
     exact(HBw.out.setCell (by simp) _).setCell (by simp) _
    clear hWF
    have k0:=(blk hF1).1 0
    have k1':=(blk hF1).1 1
    have hG:=(HOg.out.kept zC HK.out (fun i e hi=>by have:=HLg.out i hi;omega)).loc (w':=WF) zC (fun i hi=>hFo i (fun e=>by have:=HLg.out i hi;omega)) (by omega)
    have hF:=HO.out.loc (w':=WF) zj (fun i hi=>hFo i (fun e=>by have:=HL.out i hi;omega)) (by omega)
    refine bodyPost_ret (v:=.agg #[.slice p5 u.globals.length c5,.slice pf u.funcs.length cf]) ?_ rfl ⟨⟨p5,c5,pf,cf,rfl,fun k=>S1 k∨S k,⟨_,_,S1,S,rfl,⟨hG,HBd.out.1⟩,⟨hF,HBd.out.2⟩,fun i h1 h2=>?_,fun _ h=>.inl h,fun _ h=>.inr h⟩,fun i hi=>?_⟩,hFb⟩
    ·simp[results,Tryz.results34,go_sem,k0,k1']
    ·have:=HOg.out.inb i h1;have:=HL.out i h2;omega
    rcases hi with h|h
    ·have:=HLg.out i h;omega
    have:=HL.out i h;omega
   obtain⟨bp,op,cs,hp,_,hc,b0,rfl,b3,b4,b5,b6⟩:=HFs.out.get hlt
   subst hp
   obtain⟨q3,d3',rfl,_,_,hbs⟩:=b6.outC
   have hlb:u.funcs[k].blocks.length*96≤140737488351232:=b6.bdC
   have hc0:=hc 0 (by omega)
   have hbp:=q8 hc0
   have hc3:=hc 3 (by omega)
   have x0:=(HBw.out.cell (p:=⟨bp,_,none⟩) hbp).trans hc0
   have x1:=(HBw.out.cell (p:=⟨bp,_,none⟩) hbp).trans (hc 1 (by omega))
   have x2:=(HBw.out.cell (p:=⟨bp,_,none⟩) hbp).trans (hc 2 (by omega))
   have x3:=(HBw.out.cell (p:=⟨bp,_,none⟩) hbp).trans hc3
   simp only[List.getElem?_cons_zero,List.getElem?_cons_succ,Nat.add_zero]at x0 x1 x2 x3 hc3
   have HR:=q7 (And.intro b3 (And.intro b4 (And.intro b5 (And.intro b6.bdC hbs))))
   have HC3:=q7 hc3
   have hu4:bp<wr.heap.size:=by have:=HBw.out.size;omega
   clear hc hc0 b3 b4 b5 b6 hbs hc3
   have g1:(0:Int)≤(k:Int):=by omega
   have g2:(k:Int)<u.funcs.length:=by omega
   go_wp2_with fail
   obtain⟨WI,hWI⟩:∃WI,WI=wr.alloc (.cells #[.string u.funcs[k].name,.int .i64 u.funcs[k].params,.int .i64 u.funcs[k].regs,.slice none 0 0] 37):=⟨_,rfl⟩
   rw[←hWI]
   have hzI:WI.heap.size=wr.heap.size+1:=by rw[hWI];simp
   have HBI:Hid (Below wr.heap.size wr WI):=q7 (by rw[hWI];exact bZ)
   have HXI:Hid (WI.heap[wr.heap.size]?=some (.cells #[.string u.funcs[k].name,.int .i64 u.funcs[k].params,.int .i64 u.funcs[k].regs,.slice none 0 0] 37 (0,0))):=q7 (by rw[hWI];exact qh rfl)
   clear hWI x0 x1 x2 x3
   obtain⟨wo,hwo⟩:∃wo:World,wo=wr:=⟨_,rfl⟩
   subst hwo
   go_loopw [8] (fun i wr=>∃(l:Nat) (v:Value),l≤u.funcs[k].blocks.length∧i = .int .i64 l∧(∃S,SlO 48 6 BlkO wr v (u.funcs[k].blocks.take l) S∧LoB WI.heap.size S)∧wr.heap[wo.heap.size]?=some (.cells #[.string u.funcs[k].name,.int .i64 u.funcs[k].params,.int .i64 u.funcs[k].regs,v] 37 (0,0))∧Kept (fun b=>b=wo.heap.size) WI wr) (fun i _=>u.funcs[k].blocks.length - (intOf i).toNat)
   case atStart=>exact⟨0,.slice none 0 0,by omega,rfl,⟨fun _=>False,SlO.nil _ _ _ _ (fun _ h=>h.elim),fun _ h=>h.elim⟩,HXI.out,Kept.refl _ _⟩
   case round=>
    obtain⟨l,v,hl,rfl,⟨SB,hOB,hLB⟩,hXB,hKB⟩:=hrel
    obtain⟨pb,cb,hv,_⟩:=hOB.val
    rw[List.length_take_of_le hl]at hv
    subst hv
    have HOB:=q7 hOB
    have HLB:=q7 hLB
    have HXB:=q7 hXB
    have HKB:=q7 hKB
    have hu6:=hKB.size
    have hkv:Below w.heap.size w wr:=(HBw.out.trans (HBI.out.mono (by have:=HBw.out.size;omega))).trans (hKB.below (by have:=HBw.out.size;omega) (fun _ e=>by omega))
    have hky:=q7 hkv
    have hPi:=(HKB.out.block w.heap.size (by omega) (by omega)).trans ((HBI.out.block w.heap.size pz).trans HPa.out)
    have HPi:=q7 hPi
    have pci:wr.cell? ⟨w.heap.size,1,none⟩=some (.slice (some ⟨bp,op,none⟩) u.funcs.length e2):=(blk hPi).1 1
    have pzi:=q9 hPi
    have x3:=(hky.out.cell (p:=⟨bp,op+k*4+3,none⟩) hbp).trans HC3.out
    have hu7:bp<wr.heap.size:=by have:=hkv.size;omega
    clear hOB hLB hXB hKB hPi hkv
    by_cases hll:l<u.funcs[k].blocks.length
    rotate_left
    ·obtain rfl:l=u.funcs[k].blocks.length:=by omega
     rw[List.take_length]at HOB
     have hO8:=(HKB.out.block (w.heap.size+1+1) (by omega) (by omega)).trans ((HBI.out.block (w.heap.size+1+1) (by omega)).trans HA1.out)
     have o1:wr.cell? ⟨w.heap.size+1+1,1,none⟩=some (.slice pf k cf):=(blk hO8).1 1
     have oz:=q9 hO8
     have y0:wr.cell? ⟨wo.heap.size,0,none⟩=some (.string u.funcs[k].name):=(blk HXB.out).1 0
     have y1:wr.cell? ⟨wo.heap.size,1,none⟩=some (.int .i64 u.funcs[k].params):=(blk HXB.out).1 1
     have y2:wr.cell? ⟨wo.heap.size,2,none⟩=some (.int .i64 u.funcs[k].regs):=(blk HXB.out).1 2
     have y3:wr.cell? ⟨wo.heap.size,3,none⟩=some (.slice pb u.funcs[k].blocks.length cb):=(blk HXB.out).1 3
     have hO8:=q7 hO8
     have hoh:Below wo.heap.size wo wr:=HBI.out.trans (HKB.out.below (by omega) (fun _ e=>by omega))
     have hom:=q7 hoh
     clear hoh
     go_wp2_with (at_builtin;refine qD _ rfl _ _ 23 rfl 37 iF _ 4 56 Tryz.underlying23 l1 l2 l3 l4 rfl (by decide) zj rfl (S:=S) (xs:=u.funcs.take k) ?hso ⟨wr.heap.size,0,none⟩ 1 [.string u.funcs[k].name,.int .i64 u.funcs[k].params,.int .i64 u.funcs[k].regs,.slice pb u.funcs[k].blocks.length cb] u.funcs[k] rfl rfl ?hn ?ho (T:=SB) ?hx ?ha ?ht ?hm ?hb ?_)
     case hso=>exact(HO.out.below zj hom.out).below zj ((Below.refl _ _).alloc (Nat.le_refl _) _)
     case hn=>exact qS _ _ _ rfl
     case ho=>intro z hz;simp only[List.mem_cons,List.not_mem_nil,or_false]at hz;rcases hz with rfl|rfl|rfl|rfl<;>rfl
     case hx=>exact⟨_,rfl,HR.out.1,HR.out.2.1,HR.out.2.2.1,⟨HOB.out.below qE ((Below.refl _ _).alloc (Nat.le_refl _) _),HR.out.2.2.2.1⟩⟩
     case ha=>exact fun b h1 h2=>by have:=HO.out.inb b h1;have:=HLB.out b h2;omega
     case ht=>exact HOB.out.inb.mono (by simp)
     case hm=>unfold maxLen;simp;omega
     case hb=>simp;omega
     intro v2 w8 ⟨S',hO9,hsub,hK8⟩
     obtain⟨pv,cv,hv2,_⟩:=hO9.val
     have hv3:v2 = .slice pv (k+1) cv:=by rw[hv2];congr 1;simp;omega
     clear hv2
     subst hv3
     have hSn:∀i,i<W1.heap.size→¬ S i:=fun i hi h=>by have:=HL.out i h;omega
     have hA9:=(hK8.block (w.heap.size+1+1) (by simp;omega) (hSn _ (by omega))).trans (qj (o:=.cells #[.string u.funcs[k].name,.int .i64 u.funcs[k].params,.int .i64 u.funcs[k].regs,.slice pb u.funcs[k].blocks.length cb] 37) hO8.out)
     have ho1:w8.cell? ⟨w.heap.size+1+1,1,none⟩=some (.slice pf k cf):=(blk hA9).1 1
     have hof:=(blk hA9).2
     have zo:=q9 hA9
     have hrel:(∃S,SlO 37 4 FunO (w8.setCell ⟨w.heap.size+1+1,1,none⟩ (.slice pv (k+1) cv)) (.slice pv (k+1) cv) (u.funcs.take (k+1)) S∧LoB W1.heap.size S)∧(w8.setCell ⟨w.heap.size+1+1,1,none⟩ (.slice pv (k+1) cv)).heap[w.heap.size+1+1]?=some (.cells #[vg,.slice pv (k+1) cv] 25 (0,0))∧Kept (fun k=>k=w.heap.size+1+1) W1 (w8.setCell ⟨w.heap.size+1+1,1,none⟩ (.slice pv (k+1) cv)):=by
      have hlo:LoB W1.heap.size S':=fun i hi=>by
       rcases hsub i hi with h|h|h
       ·exact HL.out i h
       ·have:=HLB.out i h;omega
       simp at h;omega
      refine⟨⟨S',?_,hlo⟩,?_,?_⟩
      ·have hrQ:SlO 37 4 FunO w8 (.slice pv (k+1) cv) (u.funcs.take (k+1)) S':=by first|exact hO9|(rw[List.take_succ_eq_append_getElem hlt];exact hO9)
       exact hrQ.loc zj (fun i hi=>Go.Deep.blk_setCell_other _ _ _ _ (fun e=>by have:=hlo i hi;have e2:i=w.heap.size+1+1:=e;omega)) (by simp[World.setCell])
      ·rw[qg hA9 1 _]
       rfl
      have kA:Kept (fun k=>k=w.heap.size+1+1) W1 (wr.alloc (.cells #[.string u.funcs[k].name,.int .i64 u.funcs[k].params,.int .i64 u.funcs[k].regs,.slice pb u.funcs[k].blocks.length cb] 37)):=(HK.out.trans (Kept.of_below (S:=fun _=>False) hom.out) (fun _ _ h=>h.elim)).alloc _
      exact(kA.trans hK8 (fun i hi h=>absurd h (hSn i hi))).setCell rfl _
     have ha7:=q7 hrel
     clear hA9 hO9 hsub hK8 hrel
     go_wp2_with fail
     exact⟨⟨k+1,.slice pv (k+1) cv,by omega,by go_num,ha7.out.1,ha7.out.2.1,ha7.out.2.2⟩,by simp[intOf];omega⟩
    obtain⟨bq,oq,cs,hq,_,hc,b0,b1,b2,rfl,b3,b4,b5,b6,b7⟩:=HR.out.2.2.2.2.get hll
    subst hq
    obtain⟨r1,d1,rfl,_⟩:=b5.outC
    obtain⟨r2,d2,rfl,_⟩:=b6.outC
    obtain⟨r3,d3,rfl,_⟩:=b7.outC
    have hc0:=hc 0 (by omega)
    have hbq:=q8 hc0
    have HCB:=q7 hc
    have HRB:=q7 (And.intro b3 (And.intro b4 (And.intro b5 (And.intro b6 b7))))
    clear hc hc0 b3 b4 b5 b6 b7
    have g3:(0:Int)≤(l:Int):=by omega
    have g4:(l:Int)<u.funcs[k].blocks.length:=by omega
    go_wp2_with fail
    obtain⟨Sp,hSp⟩:∃Sp:World→Prop,Sp=fun w'=>w'.heap[wo.heap.size]?=some (.cells #[.string u.funcs[k].name,.int .i64 u.funcs[k].params,.int .i64 u.funcs[k].regs,.slice pb l cb] 37 (0,0))∧w'.heap[w.heap.size]?=some (.cells #[.slice q1 u.globals.length e1,.slice (some ⟨bp,op,none⟩) u.funcs.length e2] 25 (0,0))∧Below w.heap.size w w':=⟨_,rfl⟩
    have ha6:∀w',Sp w'→(w'.cell? ⟨wo.heap.size,3,none⟩=some (.slice pb l cb))∧w'.cell? ⟨w.heap.size,1,none⟩=some (.slice (some ⟨bp,op,none⟩) u.funcs.length e2)∧w'.cell? ⟨bp,op+k*4+3,none⟩=some (.slice (some ⟨bq,oq,none⟩) u.funcs[k].blocks.length d3')∧(∀j,j<6→w'.cell? ⟨bq,oq+l*6+j,none⟩=[.slice r1 u.funcs[k].blocks[l].phis.length d1,.slice r2 u.funcs[k].blocks[l].list.length d2,.int .i64 u.funcs[k].blocks[l].fin.kind,.bool u.funcs[k].blocks[l].fin.onr,.int .i64 u.funcs[k].blocks[l].fin.onn,.slice r3 u.funcs[k].blocks[l].fin.to.length d3][j]?)∧wo.heap.size<w'.heap.size∧w'.frozen? ⟨wo.heap.size,3,none⟩=false:=fun w' h=>by
     rw[hSp]at h
     exact⟨(blk h.1).1 3,(blk h.2.1).1 1,(h.2.2.cell (p:=⟨bp,_,none⟩) hbp).trans HC3.out,fun j hj=>(h.2.2.cell (p:=⟨bq,_,none⟩) hbq).trans (HCB.out j hj),q9 h.1,(blk h.1).2 3⟩
    have hSk:∀{U:Blks} {x y:World},Sp x→Kept U x y→(∀b,U b→w.heap.size<b∧b≠wo.heap.size)→Sp y:=fun {U x y} h hk hU=>by
     rw[hSp]at h ⊢
     exact⟨(hk.block _ (q9 h.1) (fun e=>(hU _ e).2 rfl)).trans h.1,(hk.block _ (q9 h.2.1) (fun e=>by have:=(hU _ e).1;omega)).trans h.2.1,h.2.2.trans (hk.below h.2.2.size (fun b e=>by have:=(hU b e).1;omega))⟩
    have haS:Sp wr:=by
     rw[hSp]
     exact⟨HXB.out,HPi.out,hky.out⟩
    have hS1:Sp wr.drew:=by
     rw[hSp]at haS ⊢
     exact⟨haS.1,haS.2.1,haS.2.2.drew⟩
    refine qm (S:=Sp) (by kernel_rfl) 15 ?_
    refine tkZ 0 56 (.pointer (some ⟨wo.heap.size,3,none⟩)) rfl rfl hS1 (fun w' h=>?_) ?_
    ·obtain⟨h1,h2,h3,h4,h5,h6⟩:=ha6 w' h
     go_simp
    refine tkZ 1 57 (.slice pb l cb) rfl rfl hS1 (fun w' h=>?_) ?_
    ·obtain⟨h1,h2,h3,h4,h5,h6⟩:=ha6 w' h
     go_simp
    refine tkZ 2 58 (.pointer (some ⟨w.heap.size,1,none⟩)) rfl rfl hS1 (fun w' h=>?_) ?_
    ·obtain⟨h1,h2,h3,h4,h5,h6⟩:=ha6 w' h
     go_simp
    refine tkZ 3 59 (.slice (some ⟨bp,op,none⟩) u.funcs.length e2) rfl rfl hS1 (fun w' h=>?_) ?_
    ·obtain⟨h1,h2,h3,h4,h5,h6⟩:=ha6 w' h
     go_simp
    refine tkZ 4 60 (.int .i64 k) rfl rfl hS1 (fun w' h=>?_) ?_
    ·obtain⟨h1,h2,h3,h4,h5,h6⟩:=ha6 w' h
     go_simp
    refine tkZ 5 61 (.pointer (some ⟨bp,op+k*4,none⟩)) rfl rfl hS1 (fun w' h=>?_) ?_
    ·obtain⟨h1,h2,h3,h4,h5,h6⟩:=ha6 w' h
     go_simp
    refine tkZ 6 62 (.pointer (some ⟨bp,op+k*4+3,none⟩)) rfl rfl hS1 (fun w' h=>?_) ?_
    ·obtain⟨h1,h2,h3,h4,h5,h6⟩:=ha6 w' h
     go_simp
    refine tkZ 7 63 (.slice (some ⟨bq,oq,none⟩) u.funcs[k].blocks.length d3') rfl rfl hS1 (fun w' h=>?_) ?_
    ·obtain⟨h1,h2,h3,h4,h5,h6⟩:=ha6 w' h
     go_simp
    refine tkZ 8 64 (.int .i64 l) rfl rfl hS1 (fun w' h=>?_) ?_
    ·obtain⟨h1,h2,h3,h4,h5,h6⟩:=ha6 w' h
     go_simp
    refine tkZ 9 65 (.pointer (some ⟨bq,oq+l*6,none⟩)) rfl rfl hS1 (fun w' h=>?_) ?_
    ·obtain⟨h1,h2,h3,h4,h5,h6⟩:=ha6 w' h
     go_simp
    refine tkZ 10 66 (.agg #[.slice r1 u.funcs[k].blocks[l].phis.length d1,.slice r2 u.funcs[k].blocks[l].list.length d2,.int .i64 u.funcs[k].blocks[l].fin.kind,.bool u.funcs[k].blocks[l].fin.onr,.int .i64 u.funcs[k].blocks[l].fin.onn,.slice r3 u.funcs[k].blocks[l].fin.to.length d3]) rfl rfl hS1 (fun w' h=>?_) ?_
    ·obtain⟨h1,h2,h3,h4,h5,h6⟩:=ha6 w' h
     have y0:=h4 0 (by omega)
     have y1:=h4 1 (by omega)
     have y2:=h4 2 (by omega)
     have y3:=h4 3 (by omega)
     have y4:=h4 4 (by omega)
     have y5:=h4 5 (by omega)
     simp only[List.getElem?_cons_zero,List.getElem?_cons_succ,Nat.add_zero]at y0 y1 y2 y3 y4 y5
     go_simp
    have hw1:Below w.heap.size w wr.drew:=hky.out.drew
    refine qk (i:=11) (by kernel_rfl) (qt 67 rfl rfl rfl (by go_simp) (Jg u.funcs[k].blocks[l] r1 r2 r3 d1 d2 d3 wr.drew (HRB.out.2.2.1.mono hw1 (by omega) fun _ _ g=>g.below hw1) (HRB.out.2.2.2.1.mono hw1 (by omega) fun _ _ g=>g.below hw1) (HRB.out.2.2.2.2.mono hw1 (by omega) fun _ _ g=>g) HRB.out.1 HRB.out.2.1) ?_)
    rintro e w2 ⟨⟨p1,m1,p2,m2,p3,m3,rfl,T0,hT0,heu⟩,hb2⟩
    obtain⟨T,hT,hTi,hTs⟩:=hT0.tight
    have hTl:∀b,T b→wr.heap.size≤b:=fun b h=>heu b (hTs b h)
    clear hT0 heu hTs
    have hb2:Below wr.heap.size wr w2:=(Below.refl _ wr).drew.trans hb2
    have hS2:Sp w2:=hSk (x:=wr) haS (Kept.of_below (S:=fun _=>False) hb2) (fun _ h=>h.elim)
    refine⟨_,rfl,hS2,?_⟩
    have HO2:=q7 (HOB.out.below qE hb2)
    have hz2:=hb2.size
    have HT2:=q7 hT
    have HTl:=q7 hTl
    have HTi:=q7 hTi
    have HB2:=q7 hb2
    clear hT hTl hTi hb2
    have hS3:Sp (w2.alloc (.cells #[.slice p1 u.funcs[k].blocks[l].phis.length m1,.slice p2 u.funcs[k].blocks[l].list.length m2,.int .i64 u.funcs[k].blocks[l].fin.kind,.bool u.funcs[k].blocks[l].fin.onr,.int .i64 u.funcs[k].blocks[l].fin.onn,.slice p3 u.funcs[k].blocks[l].fin.to.length m3] 48)):=hSk hS2 ((Kept.refl (fun _=>False) _).alloc _) (fun _ h=>h.elim)
    refine qk (i:=12) (by kernel_rfl) (qn 68 (.slice (some ⟨w2.heap.size,0,none⟩) 1 1) (w2.alloc (.cells #[.slice p1 u.funcs[k].blocks[l].phis.length m1,.slice p2 u.funcs[k].blocks[l].list.length m2,.int .i64 u.funcs[k].blocks[l].fin.kind,.bool u.funcs[k].blocks[l].fin.onr,.int .i64 u.funcs[k].blocks[l].fin.onn,.slice p3 u.funcs[k].blocks[l].fin.to.length m3] 48)) rfl rfl rfl (by go_simp) hS3 ?_)
    refine qk (i:=13) (by kernel_rfl) (zx 69 _ _ 35 rfl rfl rfl rfl 48 iB _ 6 96 Tryz.underlying35 j1 j2 j3 j4 rfl (by decide) qE (v:=.slice pb l cb) (by go_simp) (HO2.out.below qE ((Below.refl _ _).alloc (Nat.le_refl _) _)) ⟨w2.heap.size,0,none⟩ 1 [.slice p1 u.funcs[k].blocks[l].phis.length m1,.slice p2 u.funcs[k].blocks[l].list.length m2,.int .i64 u.funcs[k].blocks[l].fin.kind,.bool u.funcs[k].blocks[l].fin.onr,.int .i64 u.funcs[k].blocks[l].fin.onn,.slice p3 u.funcs[k].blocks[l].fin.to.length m3] u.funcs[k].blocks[l] (by go_simp) rfl ?hn ?ho (T:=T) ?hy ?ha ?ht ?hm ?hb ?_)
    case hn=>exact qS _ _ _ rfl
    case ho=>intro u hu;simp only[List.mem_cons,List.not_mem_nil,or_false]at hu;rcases hu with rfl|rfl|rfl|rfl|rfl|rfl<;>rfl
    case hy=>exact qE _ _ _ _ _ HT2.out (fun k hk=>Below.heap_alloc _ _ k (HTi.out k hk)) (by simp)
    case ha=>exact fun b h1 h2=>by have:=HOB.out.inb b h1;have:=HTl.out b h2;omega
    case ht=>exact HTi.out.mono (by simp)
    case hm=>unfold maxLen;simp;omega
    case hb=>simp;omega
    intro v2 w4 ⟨S',hO4,hsub,hK4⟩
    obtain⟨pv,cv,hv2,_⟩:=hO4.val
    have hv3:v2 = .slice pv (l+1) cv:=by rw[hv2];congr 1;simp;omega
    clear hv2
    subst hv3
    have hrR:∀b,SB b→w.heap.size<b∧b≠wo.heap.size:=fun b h=>by have:=HLB.out b h;omega
    have hS4:Sp w4:=hSk hS3 hK4 hrR
    refine⟨hS4,?_⟩
    refine tkZ 14 70 (.pointer (some ⟨wo.heap.size,3,none⟩)) rfl rfl hS4 (fun w' h=>?_) ?_
    ·obtain⟨h1,h2,h3,h4,h5,h6⟩:=ha6 w' h
     go_simp
    obtain⟨h1,h2,h3,h4,h5,h6⟩:=ha6 w4 hS4
    clear h2 h3 h4
    refine qk (i:=15) (by kernel_rfl) (qz (w4.setCell ⟨wo.heap.size,3,none⟩ (.slice pv (l+1) cv)) rfl rfl rfl (by go_simp) (fun h=>absurd rfl h) (qB (by kernel_rfl) ?_ _))
    show Exit.inBlock 5 _ Exit.normal _ _
    have hrel:(∃S,SlO 48 6 BlkO (w4.setCell ⟨wo.heap.size,3,none⟩ (.slice pv (l+1) cv)) (.slice pv (l+1) cv) (u.funcs[k].blocks.take (l+1)) S∧LoB WI.heap.size S)∧(w4.setCell ⟨wo.heap.size,3,none⟩ (.slice pv (l+1) cv)).heap[wo.heap.size]?=some (.cells #[.string u.funcs[k].name,.int .i64 u.funcs[k].params,.int .i64 u.funcs[k].regs,.slice pv (l+1) cv] 37 (0,0))∧Kept (fun b=>b=wo.heap.size) WI (w4.setCell ⟨wo.heap.size,3,none⟩ (.slice pv (l+1) cv)):=by
     have hlo:LoB WI.heap.size S':=fun i hi=>by
      rcases hsub i hi with h|h|h
      ·exact HLB.out i h
      ·have:=HTl.out i h;omega
      simp at h;omega
     have e4:w4.heap[wo.heap.size]?=some (.cells #[.string u.funcs[k].name,.int .i64 u.funcs[k].params,.int .i64 u.funcs[k].regs,.slice pb l cb] 37 (0,0)):=by
      rw[hSp]at hS4
      exact hS4.1
     refine⟨⟨S',?_,hlo⟩,?_,?_⟩
     ·have hO9:SlO 48 6 BlkO w4 (.slice pv (l+1) cv) (u.funcs[k].blocks.take (l+1)) S':=by first|exact hO4|(rw[List.take_succ_eq_append_getElem hll];exact hO4)
      exact hO9.loc qE (fun i hi=>Go.Deep.blk_setCell_other _ _ _ _ (fun e=>by have:=hlo i hi;have e2:i=wo.heap.size:=e;omega)) (by simp[World.setCell])
     ·rw[qg e4 3 _]
      rfl
     have kA:Kept (fun b=>b=wo.heap.size) WI w2:=HKB.out.trans (Kept.of_below (S:=fun _=>False) HB2.out) (fun _ _ h=>h.elim)
     exact((kA.alloc _).trans hK4 (fun i hi h=>by have:=HLB.out i h;omega)).setCell rfl _
    have ha7:=q7 hrel
    clear hrel hS4 h1 h5 h6 hO4 hsub hK4 hS3 hS2 hS1 haS hSk ha6 hSp
    go_wp2_with fail
    exact⟨⟨l+1,.slice pv (l+1) cv,by omega,by go_num,ha7.out.1,ha7.out.2.1,ha7.out.2.2⟩,by simp[intOf];omega⟩
end Go.Proofs.YtecdphhdmjmmnaaGreatDoor
