/-
  The contract of calls.CopyFunc.
-/
import Derived.Test.YtecdphhdmjmmnaaGreatDoorJCopA
import Derived.RangeFuncNested
import Derived.RangeFuncBound
import Derived.RangeFuncCalls
import Derived.RangeFuncLeaves
import Derived.RangeFuncBox
import Derived.Shelf.Abstract
import Derived.Shelf.RegionOpen
import Derived.OwnWalkIn
import Derived.TacticsInMore
import Derived.LoopNIn
import Derived.LoopIn
import Derived.OrdersHeld
import Derived.OrdersIn
import Derived.Deep.DeepCutAuto
import Derived.Outline
set_option maxRecDepth 100000
set_option maxHeartbeats 16000000
namespace Go.Proofs.YtecdphhdmjmmnaaGreatDoor
open Go.RowKit

theorem JK:(Tryz.prog.info? 101).map (fun i=>(i.zero,i.size,i.bytes))=some (some (.agg #[.int .i64 0,.slice none 0 0]),2,32):=by kernel_rfl
theorem Q0:(Tryz.prog.info? 53).map (fun i=>(i.zero,i.size,i.bytes))=some (some (.agg #[.int .i64 0,.int .i64 0,.bool false,.int .i64 0,.bool false,.int .i64 0,.int .i64 0,.slice none 0 0]),8,80):=by kernel_rfl
theorem SliceAt.get {α:Type} {w:World} {size:Nat} {R:List Value→α→Prop} {p:Option Addr} {xs:List α} (h:SliceAt w size R p xs) {i:Nat} (hi:i<xs.length):∃b o cs,p=some ⟨b,o,none⟩∧cs.length=size∧(∀j,j<size→w.cell? ⟨b,o+i*size+j,none⟩=cs[j]?)∧R cs xs[i]:=by
 rcases h with rfl|⟨b,o,hp,h⟩
 ·simp at hi
 obtain⟨cs,hl,hc,hr⟩:=h i hi
 exact⟨b,o,cs,hp,hl,hc,hr⟩
theorem SlO.set_alloc {α:Type} {e:TypeId} {size:Nat} {R:ElemO α} (hR:vd R) {w:World} {v:Value} {xs:List α} {S:Blks} (h:SlO e size R w v xs S) {n j:Nat} (hS:¬ S n) (u:Value) (o:Obj):SlO e size R ((w.setCell ⟨n,j,none⟩ u).alloc o) v xs S:=
 h.loc hR (fun k hk=>(Below.heap_alloc _ o k (by rw[Go.Deep.nblk_setCell];exact h.inb k hk)).trans (Go.Deep.blk_setCell_other w ⟨n,j,none⟩ u k (fun e=>hS (by rw[←show k=n from e];exact hk)))) (by simp[World.setCell])
theorem SlQ.set_alloc {α:Type} {e:TypeId} {size bytes:Nat} {R:ElemO α} (hR:vd R) {w:World} {v:Value} {xs:List α} {S:Blks} (h:SlQ e size bytes R w v xs S) {n j:Nat} (hS:¬ S n) (u:Value) (o:Obj):SlQ e size bytes R ((w.setCell ⟨n,j,none⟩ u).alloc o) v xs S:=⟨h.sl.set_alloc hR hS u o,h.bd⟩
theorem InB.set_alloc {w:World} {S:Blks} (h:InB w S) (a:Addr) (u:Value) (o:Obj):InB ((w.setCell a u).alloc o) S:=h.mono (by simp[World.setCell])

theorem J8 (b:BlkL) (q1 q2 q3:Option Addr) (e1 e2 e3:Nat) (w:World) (hn:SlF w 2 32 (PhiR w) (.slice q1 b.phis.length e1) b.phis) (hI:SlF w 8 80 (InsR w) (.slice q2 b.list.length e2) b.list) (hT:SlF w 1 8 ju (.slice q3 b.fin.to.length e3) b.fin.to) (i1:I64 b.fin.kind) (i2:I64 b.fin.onn) :
  Calls Tryz.prog 78 #[.agg #[.slice q1 b.phis.length e1,.slice q2 b.list.length e2,.int .i64 b.fin.kind,.bool b.fin.onr,.int .i64 b.fin.onn,.slice q3 b.fin.to.length e3]] w fun e w'=>(∃p1 c1 p2 c2 p3 c3,e = .returned (.agg #[.slice p1 b.phis.length c1,.slice p2 b.list.length c2,.int .i64 b.fin.kind,.bool b.fin.onr,.int .i64 b.fin.onn,.slice p3 b.fin.to.length c3])∧
   ∃S,BlkO w' [.slice p1 b.phis.length c1,.slice p2 b.list.length c2,.int .i64 b.fin.kind,.bool b.fin.onr,.int .i64 b.fin.onn,.slice p3 b.fin.to.length c3] b S∧LoB w.heap.size S)∧Below w.heap.size w w':=by
 obtain⟨iP,k1,k2,k3,k4⟩:=info_parts JK
 obtain⟨iI,l1,l2,l3,l4⟩:=info_parts Q0
 have hlp:b.phis.length*32≤140737488351232:=hn.out.elim fun _ h=>h.elim fun _ h=>h.2.1
 have hli:b.list.length*80≤140737488351232:=hI.out.elim fun _ h=>h.elim fun _ h=>h.2.1
 have hnp:SliceAt w 2 (PhiR w) q1 b.phis:=by
  obtain⟨p,c,e,_,_,h⟩:=hn.outC
  cases e
  exact h
 have hni:SliceAt w 8 (InsR w) q2 b.list:=by
  obtain⟨p,c,e,_,_,h⟩:=hI.outC
  cases e
  exact h
 have HN:=q7 hnp
 have HI:=q7 hni
 have HT:=q7 hT
 have HI1:=q7 i1
 have HI2:=q7 i2
 have HBd:=q7 (And.intro hn.bdC (And.intro hI.bdC hT.bdC))
 clear hn hI hT i1 i2 hnp hni
 go_enter Tryz.func78,Tryz.ntmps78
 go_wp2_with fail
 obtain⟨W0,hW0⟩:∃W0,W0=(w.alloc (.cells #[.slice q1 b.phis.length e1,.slice q2 b.list.length e2,.int .i64 b.fin.kind,.bool b.fin.onr,.int .i64 b.fin.onn,.slice q3 b.fin.to.length e3] 48)).alloc (.cells #[.slice none 0 0,.slice none 0 0,.int .i64 0,.bool false,.int .i64 0,.slice none 0 0] 48):=⟨_,rfl⟩
 rw[←hW0]
 have hz0:W0.heap.size=w.heap.size+1+1:=by rw[hW0];simp
 have HB0:Hid (Below w.heap.size w W0):=q7 (by rw[hW0];exact bZ)
 have HA:Hid (W0.heap[w.heap.size]?=some (.cells #[.slice q1 b.phis.length e1,.slice q2 b.list.length e2,.int .i64 b.fin.kind,.bool b.fin.onr,.int .i64 b.fin.onn,.slice q3 b.fin.to.length e3] 48 (0,0))):=q7 (by rw[hW0];exact qj (qh rfl))
 have HZ:Hid (W0.heap[w.heap.size+1]?=some (.cells #[.slice none 0 0,.slice none 0 0,.int .i64 0,.bool false,.int .i64 0,.slice none 0 0] 48 (0,0))):=q7 (by rw[hW0];exact qh (by simp))
 clear hW0
 go_loopw [3,12] (fun v i wr=>∃k:Nat,k≤b.phis.length∧i = .int .i64 k∧(∃S,SlO 101 2 PhiO wr v (b.phis.take k) S∧LoB W0.heap.size S)∧Below W0.heap.size W0 wr) (fun _ i _=>b.phis.length - (intOf i).toNat)
 case atStart=>exact⟨0,by omega,rfl,⟨fun _=>False,SlO.nil _ _ _ _ (fun _ h=>h.elim),fun _ h=>h.elim⟩,Below.refl _ _⟩
 case round=>
  obtain⟨k,hk,rfl,⟨S,hO,hL⟩,hb⟩:=hrel
  obtain⟨vpA,vcA,hv,_⟩:=hO.val
  rw[List.length_take_of_le hk]at hv
  subst hv
  have HO:=q7 hO
  have HL:=q7 hL
  have HB:=q7 hb
  have hsz:=hb.size
  have HBw:Hid (Below w.heap.size w wr):=HB0.out.trans (hb.mono (by omega))
  clear hO hL hb
  by_cases hlt:k<b.phis.length
  ·obtain⟨bp,op,cs,hp,_,hc,pv,rfl,hd,hs⟩:=HN.out.get hlt
   subst hp
   obtain⟨q,c,rfl,hq0,_,hql,hqs⟩:=hs
   have hc0:=hc 0 (by omega)
   have hc1:=hc 1 (by omega)
   have hbp:=q8 hc0
   have c0:=(HBw.out.cell (p:=⟨bp,_,none⟩) hbp).trans hc0
   have c1:=(HBw.out.cell (p:=⟨bp,_,none⟩) hbp).trans hc1
   simp only[List.getElem?_cons_zero,List.getElem?_cons_succ,Nat.add_zero]at c0 c1
   have HQ0:=q7 hq0
   have HQl:=q7 hql
   have HQs:=q7 hqs
   have HD:=q7 hd
   clear hc hc0 hc1 hq0 hql hqs hd
   go_wp2_with fail
   refine(vh b.phis[k].src q c _ (HQs.out.mono (HBw.out.trans bZ) (by omega) fun _ _ g=>g) HQ0.out HQl.out).mono ?_
   rintro e w5 ⟨p',c',rfl,⟨S2,hS2,hL2⟩,hb5⟩
   have hr5:Below wr.heap.size wr w5:=Below.trans bZ (hb5.mono (by simp))
   have hu:=qg hb5 (k:=wr.heap.size) (by simp) (qm wr _)
   obtain⟨hu0,hu1⟩:=blk hu
   have zu:=(Array.getElem?_eq_some_iff.1 hu).1
   have hN5:¬ S wr.heap.size:=fun h=>by have:=HO.out.inb _ h;omega
   have hL2':∀k,S2 k→wr.heap.size+1≤k:=fun k h=>by have:=hL2 k h;simpa using this
   have hN2:¬ S2 wr.heap.size:=fun h=>by have:=hL2' _ h;omega
   have HO5:=q7 (HO.out.below zQ hr5)
   have HS2:=q7 hS2
   have HL2:=q7 hL2'
   have HR5:=q7 hr5
   have HNN:=q7 (And.intro hN5 hN2)
   have hjB:=hr5.size
   clear hb5 hr5 hu hS2 hL2 hL2' hN5 hN2
   go_wp2_with (at_builtin;refine qF _ rfl _ _ 40 rfl 101 iP _ 2 32 Tryz.underlying40 k1 k2 k3 k4 rfl (by decide) zQ rfl (HO5.out.set_alloc zQ HNN.out.1 _ _) ⟨w5.heap.size,0,none⟩ 1 [.int .i64 b.phis[k].dst,.slice p' b.phis[k].src.length c'] b.phis[k] rfl rfl ?hn ?ho (T:=S2) ⟨_,rfl,HD.out,HS2.out.set_alloc xk HNN.out.2 _ _⟩ ?ha ?ht ?hm ?hb ?_)
   case hn=>exact x8 _ _ _ (by simp[World.setCell])
   case ho=>intro u hu;simp only[List.mem_cons,List.not_mem_nil,or_false]at hu;rcases hu with rfl|rfl<;>rfl
   case ha=>exact fun k h1 h2=>by have:=HO.out.inb k h1;have:=HL2.out k h2;omega
   case ht=>exact HS2.out.sl.inb.set_alloc _ _ _
   case hm=>unfold maxLen;simp;omega
   case hb=>simp;omega
   intro v2 w8 ⟨S',hO8,hsub,hK⟩
   have hrel:(∃S,SlO 101 2 PhiO w8 v2 (b.phis.take (k+1)) S∧LoB W0.heap.size S)∧Below W0.heap.size W0 w8:=by
    refine⟨⟨S',by first|exact hO8|(rw[List.take_succ_eq_append_getElem hlt];exact hO8),fun k hk=>?_⟩,?_⟩
    ·rcases hsub k hk with h|h|h
     ·exact HL.out k h
     ·have:=HL2.out k h;omega
     simp[World.setCell]at h;omega
    refine(((HB.out.trans (HR5.out.mono hsz)).setCell hsz _).alloc (by simp[World.setCell];omega) _).trans (hK.below (by simp[World.setCell];omega) HL.out)
   have ha7:=q7 hrel
   clear hO8 hsub hK hrel
   go_wp2_with fail
   exact⟨⟨k+1,by omega,by go_num,ha7.out.1,ha7.out.2⟩,by simp[intOf];omega⟩
  obtain rfl:k=b.phis.length:=by omega
  rw[List.take_length]at HO
  have HOp:=q7 HO.out
  have HLp:=q7 HL.out
  clear HO HL
  obtain⟨W1,hW1⟩:∃W1,W1=wr:=⟨_,rfl⟩
  rw[←hW1]
  rw[←hW1]at HOp HB HBw hsz
  have HB1:=q7 HBw.out
  have hgL:=q7 HB.out
  obtain⟨Sp,hSp⟩:∃Sp,Sp=S:=⟨_,rfl⟩
  rw[←hSp]at HOp HLp
  have hu1:=qg hgL.out (k:=w.heap.size) (by omega) HA.out
  have k1c:W1.cell? ⟨w.heap.size,1,none⟩=some (.slice q2 b.list.length e2):=(blk hu1).1 1
  have zz1:w.heap.size<W1.heap.size:=by omega
  clear HB HBw hW1 hSp hu1
  go_wp2_with fail
  go_loopw [6,28] (fun v i wr=>∃k:Nat,k≤b.list.length∧i = .int .i64 k∧(∃S,SlO 53 8 InsO wr v (b.list.take k) S∧LoB W1.heap.size S)∧Below W1.heap.size W1 wr) (fun _ i _=>b.list.length - (intOf i).toNat)
  case atStart=>exact⟨0,by omega,rfl,⟨fun _=>False,SlO.nil _ _ _ _ (fun _ h=>h.elim),fun _ h=>h.elim⟩,Below.refl _ _⟩
  case round=>
   obtain⟨k,hk,rfl,⟨S,hO,hL⟩,hb⟩:=hrel
   obtain⟨vpB,vcB,hv,_⟩:=hO.val
   rw[List.length_take_of_le hk]at hv
   subst hv
   have HO:=q7 hO
   have HL:=q7 hL
   have HB:=q7 hb
   have hsz:=hb.size
   have HBw:Hid (Below w.heap.size w wr):=HB1.out.trans (hb.mono (by omega))
   clear hO hL hb
   by_cases hlt:k<b.list.length
   ·obtain⟨bp,op,cs,hp,_,hc,pv,rfl,hd1,hd2,hd3,hd4,hd5,hs⟩:=HI.out.get hlt
    subst hp
    obtain⟨q,c,rfl,hq0,_,hql,hqs⟩:=hs
    have hc0:=hc 0 (by omega)
    have hc1:=hc 1 (by omega)
    have hc2:=hc 2 (by omega)
    have hc3:=hc 3 (by omega)
    have hc4:=hc 4 (by omega)
    have hc5:=hc 5 (by omega)
    have hc6:=hc 6 (by omega)
    have hc7:=hc 7 (by omega)
    have hbp:=q8 hc0
    have c0:=(HBw.out.cell (p:=⟨bp,_,none⟩) hbp).trans hc0
    have c1:=(HBw.out.cell (p:=⟨bp,_,none⟩) hbp).trans hc1
    have c2:=(HBw.out.cell (p:=⟨bp,_,none⟩) hbp).trans hc2
    have c3:=(HBw.out.cell (p:=⟨bp,_,none⟩) hbp).trans hc3
    have c4:=(HBw.out.cell (p:=⟨bp,_,none⟩) hbp).trans hc4
    have c5:=(HBw.out.cell (p:=⟨bp,_,none⟩) hbp).trans hc5
    have c6:=(HBw.out.cell (p:=⟨bp,_,none⟩) hbp).trans hc6
    have c7:=(HBw.out.cell (p:=⟨bp,_,none⟩) hbp).trans hc7
    simp only[List.getElem?_cons_zero,List.getElem?_cons_succ,Nat.add_zero]at c0 c1 c2 c3 c4 c5 c6 c7
    have HQ0:=q7 hq0
    have HQl:=q7 hql
    have HQs:=q7 hqs
    have HD:=q7 (And.intro hd1 (And.intro hd2 (And.intro hd3 (And.intro hd4 hd5))))
    clear hc hc0 hc1 hc2 hc3 hc4 hc5 hc6 hc7 hq0 hql hqs hd1 hd2 hd3 hd4 hd5
    go_wp2_with fail
    refine(vh b.list[k].args q c _ (HQs.out.mono (HBw.out.trans bZ) (by omega) fun _ _ g=>g) HQ0.out HQl.out).mono ?_
    rintro e w5 ⟨p',c',rfl,⟨S2,hS2,hL2⟩,hb5⟩
    have hr5:Below wr.heap.size wr w5:=Below.trans bZ (hb5.mono (by simp))
    have hu:=qg hb5 (k:=wr.heap.size) (by simp) (qm wr _)
    obtain⟨hu0,hu1⟩:=blk hu
    have zu:=(Array.getElem?_eq_some_iff.1 hu).1
    have hN5:¬ S wr.heap.size:=fun h=>by have:=HO.out.inb _ h;omega
    have hL2':∀k,S2 k→wr.heap.size+1≤k:=fun k h=>by have:=hL2 k h;simpa using this
    have hN2:¬ S2 wr.heap.size:=fun h=>by have:=hL2' _ h;omega
    have HO5:=q7 (HO.out.below qU hr5)
    have HS2:=q7 hS2
    have HL2:=q7 hL2'
    have HR5:=q7 hr5
    have HNN:=q7 (And.intro hN5 hN2)
    have hjB:=hr5.size
    clear hb5 hr5 hu hS2 hL2 hL2' hN5 hN2
    go_wp2_with (at_builtin;refine qF _ rfl _ _ 41 rfl 53 iI _ 8 80 Tryz.underlying41 l1 l2 l3 l4 rfl (by decide) qU rfl (HO5.out.set_alloc qU HNN.out.1 _ _) ⟨w5.heap.size,0,none⟩ 1 [.int .i64 b.list[k].op,.int .i64 b.list[k].dst,.bool b.list[k].ar,.int .i64 b.list[k].an,.bool b.list[k].br,.int .i64 b.list[k].bn,.int .i64 b.list[k].fn,.slice p' b.list[k].args.length c'] b.list[k] rfl rfl ?hn ?ho (T:=S2) ⟨_,rfl,HD.out.1,HD.out.2.1,HD.out.2.2.1,HD.out.2.2.2.1,HD.out.2.2.2.2,HS2.out.set_alloc xk HNN.out.2 _ _⟩ ?ha ?ht ?hm ?hb ?_)
    case hn=>exact x8 _ _ _ (by simp[World.setCell])
    case ho=>intro u hu;simp only[List.mem_cons,List.not_mem_nil,or_false]at hu;rcases hu with rfl|rfl|rfl|rfl|rfl|rfl|rfl|rfl<;>rfl
    case ha=>exact fun k h1 h2=>by have:=HO.out.inb k h1;have:=HL2.out k h2;omega
    case ht=>exact HS2.out.sl.inb.set_alloc _ _ _
    case hm=>unfold maxLen;simp;omega
    case hb=>simp;omega
    intro v2 w8 ⟨S',hO8,hsub,hK⟩
    have hrel:(∃S,SlO 53 8 InsO w8 v2 (b.list.take (k+1)) S∧LoB W1.heap.size S)∧Below W1.heap.size W1 w8:=by
     refine⟨⟨S',by first|exact hO8|(rw[List.take_succ_eq_append_getElem hlt];exact hO8),fun k hk=>?_⟩,?_⟩
     ·rcases hsub k hk with h|h|h
      ·exact HL.out k h
      ·have:=HL2.out k h;omega
      simp[World.setCell]at h;omega
     refine(((HB.out.trans (HR5.out.mono hsz)).setCell hsz _).alloc (by simp[World.setCell];omega) _).trans (hK.below (by simp[World.setCell];omega) HL.out)
    have ha7:=q7 hrel
    clear hO8 hsub hK hrel
    go_wp2_with fail
    exact⟨⟨k+1,by omega,by go_num,ha7.out.1,ha7.out.2⟩,by simp[intOf];omega⟩
   obtain rfl:k=b.list.length:=by omega
   rw[List.take_length]at HO
   have HOl:=q7 HO.out
   have HLl:=q7 HL.out
   clear HO HL
   obtain⟨W2,hW2⟩:∃W2,W2=wr:=⟨_,rfl⟩
   rw[←hW2]
   rw[←hW2]at HOl HB HBw hsz
   obtain⟨Sl,hSl⟩:∃Sl,Sl=S:=⟨_,rfl⟩
   rw[←hSl]at HOl HLl
   have hjC:=q7 HB.out
   have hA2:=qg HB.out (k:=w.heap.size) (by omega) (qg hgL.out (k:=w.heap.size) (by omega) HA.out)
   have hZ2:=qg HB.out (k:=w.heap.size+1) (by omega) (qg hgL.out (k:=w.heap.size+1) (by omega) HZ.out)
   obtain⟨ka,fa⟩:=blk hA2
   have kc0:W2.cell? ⟨w.heap.size,0,none⟩=some (.slice q1 b.phis.length e1):=ka 0
   have kc1:W2.cell? ⟨w.heap.size,1,none⟩=some (.slice q2 b.list.length e2):=ka 1
   have kc5:W2.cell? ⟨w.heap.size,5,none⟩=some (.slice q3 b.fin.to.length e3):=ka 5
   have HA2:=q7 hA2
   have HZ2:=q7 hZ2
   have zz2:w.heap.size<W2.heap.size:=by omega
   have zz3:w.heap.size+1<W2.heap.size:=by omega
   clear HB hW2 hSl hA2 hZ2 ka k1c zz1
   go_wp2_with fail
   obtain⟨W3,hW3⟩:∃W3,W3=(W2.setCell ⟨w.heap.size,0,none⟩ (.slice vpA b.phis.length vcA)).setCell ⟨w.heap.size,1,none⟩ (.slice vpB b.list.length vcB):=⟨_,rfl⟩
   rw[←hW3]
   have hA3:W3.heap[w.heap.size]?=some (.cells #[.slice vpA b.phis.length vcA,.slice vpB b.list.length vcB,.int .i64 b.fin.kind,.bool b.fin.onr,.int .i64 b.fin.onn,.slice q3 b.fin.to.length e3] 48 (0,0)):=by
    rw[hW3,qd (qd HA2.out 0 _) 1 _]
    rfl
   have hO3:∀k,k≠w.heap.size→W3.heap[k]?=W2.heap[k]?:=fun k hk=>by
    rw[hW3]
    exact(Go.Deep.blk_setCell_other _ ⟨w.heap.size,1,none⟩ _ k hk).trans (Go.Deep.blk_setCell_other _ ⟨w.heap.size,0,none⟩ _ k hk)
   have hs3:W3.heap.size=W2.heap.size:=by rw[hW3,Go.Deep.nblk_setCell,Go.Deep.nblk_setCell]
   have hB3:Below w.heap.size w W3:=by rw[hW3];exact(HBw.out.setCell (Nat.le_refl _) _).setCell (Nat.le_refl _) _
   obtain⟨q3',e3',hq3,hqn,_,hql,hqs⟩:=HT.out
   cases hq3
   have HO3:=q7 hO3
   have HB3:=q7 hB3
   have HA3:=q7 hA3
   have HQn:=q7 hqn
   have HQl:=q7 hql
   have HQs:=q7 hqs
   clear hO3 hB3 hA3 hqn hql hqs hW3 kc0 kc1 kc5 fa HT
   refine(vj b.fin.to q3 e3 W3 (HQs.out.mono HB3.out (by omega) fun _ _ g=>g) HQn.out HQl.out).mono ?_
   rintro e w9 ⟨p3,c3,rfl,⟨S3,hS3,hL3⟩,hb9⟩
   have hA9:=qg hb9 (k:=w.heap.size) (by omega) HA3.out
   have hZ9:=qg hb9 (k:=w.heap.size+1) (by omega) ((HO3.out (w.heap.size+1) (by omega)).trans HZ2.out)
   obtain⟨ka,fa⟩:=blk hA9
   obtain⟨kz,fz⟩:=blk hZ9
   have zz4:=(Array.getElem?_eq_some_iff.1 hA9).1
   have zz5:=(Array.getElem?_eq_some_iff.1 hZ9).1
   have HA9:=q7 hA9
   have HZ9:=q7 hZ9
   have HS3:=q7 hS3
   have HL3:=q7 hL3
   have HB9:=q7 hb9
   clear hA9 hZ9 hS3 hL3 hb9
   go_wp2_with fail
   obtain⟨WF,hWF⟩:∃WF,WF=((((((w9.setCell ⟨w.heap.size,5,none⟩ (.slice p3 b.fin.to.length c3)).setCell ⟨w.heap.size+1,0,none⟩ (.slice vpA b.phis.length vcA)).setCell ⟨w.heap.size+1,1,none⟩ (.slice vpB b.list.length vcB)).setCell ⟨w.heap.size+1,2,none⟩ (.int .i64 b.fin.kind)).setCell ⟨w.heap.size+1,3,none⟩ (.bool b.fin.onr)).setCell ⟨w.heap.size+1,4,none⟩ (.int .i64 b.fin.onn)).setCell ⟨w.heap.size+1,5,none⟩ (.slice p3 b.fin.to.length c3):=⟨_,rfl⟩
   rw[←hWF]
   have hF1:WF.heap[w.heap.size+1]?=some (.cells #[.slice vpA b.phis.length vcA,.slice vpB b.list.length vcB,.int .i64 b.fin.kind,.bool b.fin.onr,.int .i64 b.fin.onn,.slice p3 b.fin.to.length c3] 48 (0,0)):=by
    rw[hWF,qd (qd (qd (qd (qd (qd ((Go.Deep.blk_setCell_other w9 ⟨w.heap.size,5,none⟩ _ (w.heap.size+1) (fun e=>by have e2:w.heap.size+1=w.heap.size:=e;omega)).trans HZ9.out) 0 _) 1 _) 2 _) 3 _) 4 _) 5 _]
    rfl
   have hFo:∀k,k≠w.heap.size→k≠w.heap.size+1→WF.heap[k]?=w9.heap[k]?:=fun k h1 h2=>by
    rw[hWF]
    repeat rw[Go.Deep.blk_setCell_other _ _ _ _ (by assumption)]
   have hFs:WF.heap.size=w9.heap.size:=by rw[hWF];simp[World.setCell]
   have hFb:Below w.heap.size w9 WF:=by
    rw[hWF]
    exact bZ
   have hz9:=HB9.out.size
   have hnB:=hjC.out.size
   have k0:=(blk hF1).1 0
   have k1':=(blk hF1).1 1
   have k2':=(blk hF1).1 2
   have k3':=(blk hF1).1 3
   have k4':=(blk hF1).1 4
   have k5':=(blk hF1).1 5
   clear hWF
   refine bodyPost_ret (v:=.agg #[.slice vpA b.phis.length vcA,.slice vpB b.list.length vcB,.int .i64 b.fin.kind,.bool b.fin.onr,.int .i64 b.fin.onn,.slice p3 b.fin.to.length c3]) ?_ rfl ⟨⟨vpA,vcA,vpB,vcB,p3,c3,rfl,fun k=>Sp k∨Sl k∨S3 k,?_,?_⟩,?_⟩
   ·simp[results,Tryz.results78,go_sem,k0,k1',k2',k3',k4',k5']
   ·have f29:∀k,w.heap.size+1<k→k<W2.heap.size→WF.heap[k]?=W2.heap[k]?:=fun k h1 h2=>(hFo k (by omega) (by omega)).trans ((HB9.out.block k (by omega)).trans (HO3.out k (by omega)))
    have hOp:=(HOp.out.below zQ hjC.out).loc (w':=WF) zQ (fun k hk=>f29 k (by have:=HLp.out k hk;omega) (by have:=HOp.out.inb k hk;omega)) (by omega)
    have hOl:=HOl.out.loc (w':=WF) qU (fun k hk=>f29 k (by have:=HLl.out k hk;omega) (HOl.out.inb k hk)) (by omega)
    have hO3:=HS3.out.sl.loc (w':=WF) qX (fun k hk=>hFo k (by have:=HL3.out k hk;omega) (by have:=HL3.out k hk;omega)) (by omega)
    refine⟨_,_,_,Sp,Sl,S3,rfl,HI1.out,HI2.out,⟨hOp,HBd.out.1⟩,⟨hOl,HBd.out.2.1⟩,⟨hO3,HBd.out.2.2⟩,fun k a c=>?_,fun k a c=>?_,fun k a c=>?_,fun _ h=>.inl h,fun _ h=>.inr (.inl h),fun _ h=>.inr (.inr h)⟩
    ·have:=HOp.out.inb k a;have:=HLl.out k c;omega
    ·have:=HOp.out.inb k a;have:=HL3.out k c;omega
    have:=HOl.out.inb k a;have:=HL3.out k c;omega
   ·rintro k (h|h|h)
    ·have:=HLp.out k h;omega
    ·have:=HLl.out k h;omega
    have:=HL3.out k h;omega
   exact(HB3.out.trans (HB9.out.mono (by omega))).trans hFb
end Go.Proofs.YtecdphhdmjmmnaaGreatDoor
namespace Go.Proofs.YtecdphhdmjmmnaaGreatDoor
open Go.RowKit Go.Shelf
attribute [local go_sem] Oper.semAt_some

def allIns (f:FunL):List InsL:=f.blocks.flatMap fun b=>b.list
end Go.Proofs.YtecdphhdmjmmnaaGreatDoor
namespace Go.Proofs.YtecdphhdmjmmnaaGreatDoor
open Go.RowKit Go.Shelf

theorem Zr {P:Program} {ops:Array Oper} {Q:Exit→Act→World→Prop} {i:Nat} {o:Oper} {K:Act→World→Prop} {a:Act} {w:World} (ho:ops[i]?=some o) (hg:o.guard=none) (h:o.wp P a w K Q):wpOp P ops Q i K a w:=by
 unfold wpOp
 rw[ho]
 simp only[Region.wanted,hg]
 exact .inl h
section
variable {P : Program} {md : Region.Mode} {ops : Array Oper} {Q : Exit → Act → World → Prop} {S : World → Prop} {z : Nat}
def qL (P:Program) (md:Region.Mode) (ops:Array Oper) (Q:Exit→Act→World→Prop) (S:World→Prop) (z:Nat):Nat→Array Bool→Act→World→Prop
 | 0,listed,a,w=>Region.ready md ops listed=[]∧Q .normal a w
 | fuel+1,listed,a,w=>
  (Region.ready md ops listed=[]→Q .normal a w)∧
  ∀i∈Region.ready md ops listed,wpOp P ops Q i (fun a' w'=>(i≠z→S w')∧qL P md ops Q S z fuel (listed.setIfInBounds i true) a' w') a w
theorem QW:∀(fuel:Nat) (listed:Array Bool) (a:Act) (w:World),qL P md ops Q S z fuel listed a w→wpAny P md ops Q fuel listed a w
 | 0,_,_,_,h=>h
 | fuel+1,_,_,_,h=>⟨h.1,fun i hi=>wpOp_mono (fun a' w' h'=>QW fuel _ a' w' h'.2) (h.2 i hi)⟩
theorem Xa {i:Nat} {oi oz:Oper} {v:Value} (hi:ops[i]?=some oi) (hz:ops[z]?=some oz) (hiz:i≠z) (hw:∃e∈oz.after,Region.binds md e=true∧e.on=i) (hsel:∀(j:Nat) (o:Oper) cs b,ops[j]?=some o→o.op≠.select cs b)
  (hQ:∀c a w,Q (.panic c) (a.put oi.dst v) w→Q (.panic c) a w) :
  ∀(fuel:Nat) (listed:Array Bool) (a:Act) (w:World),
   (∀j oj,ops[j]?=some oj→j≠i→listed.getD j true=false→(∀e∈oj.after,Region.binds md e=true→e.on≠i)→oi.apart ops oj=true)→
   i∈Region.ready md ops listed→YieldsIf P ops S oi v a→S w→
   qL P md ops Q S z fuel (listed.setIfInBounds i true) (a.put oi.dst v) w→qL P md ops Q S z (fuel+1) listed a w:=by
 intro fuel
 induction fuel with
 | zero=>
  intro listed a w _ hr hy hS H
  refine⟨fun h=>(by rw[h]at hr;cases hr),fun j hj=>?_⟩
  by_cases hji:j=i
  ·subst hji;exact hy.wpOp hi hS ⟨fun _=>hS,H⟩
  have:=ready_mono hj hji
  rw[H.1]at this
  cases this
 | succ fuel ih=>
  intro listed a w hfree hr hy hS H
  refine⟨fun h=>(by rw[h]at hr;cases hr),fun j hj=>?_⟩
  by_cases hji:j=i
  ·subst hji;exact hy.wpOp hi hS ⟨fun _=>hS,H⟩
  have h1:=H.2 j (ready_mono hj hji)
  obtain⟨hjun,oj,hoj,hall⟩:=mem_ready.1 hj
  have hnot:∀e∈oj.after,Region.binds md e=true→e.on≠i:=fun e he hb heq=>by
   have h1:=hall e he hb
   have h0:=(mem_ready.1 hr).1
   rw[heq]at h1
   rcases Nat.lt_or_ge i listed.size with h'|h'
   ·simp[h']at h0 h1;rw[h0]at h1;cases h1
   simp[Array.getElem?_eq_none h']at h1
  have hjz:j≠z:=fun e=>by
   subst e
   rw[hoj]at hz
   cases hz
   obtain⟨e,he,hb,hon⟩:=hw
   exact hnot e he hb hon
  have h2:=wpOp_putIf hoj (hfree j oj hoj hji hjun hnot) (fun cs b=>hsel i oi cs b hi) (fun cs b=>hsel j oj cs b hoj) hQ hy h1
  have hfree':∀k ok,ops[k]?=some ok→k≠i→(listed.setIfInBounds j true).getD k true=false→
    (∀e∈ok.after,Region.binds md e=true→e.on≠i)→oi.apart ops ok=true:=fun k ok hk hki hun hno=>by
   refine hfree k ok hk hki ?_ hno
   by_cases hjk:j=k
   ·subst hjk;exact hjun
   rw[getD_set_ne true hjk]at hun;exact hun
  refine wpOp_mono (fun a' w' h3=>⟨fun _=>h3.2.1 hjz,ih (listed.setIfInBounds j true) a' w' hfree' (ready_mono hr (Ne.symm hji)) h3.1 (h3.2.1 hjz) ?_⟩) h2
  rw[Array.setIfInBounds_comm _ _ hji]
  exact h3.2.2
def JL (md:Region.Mode) (ops:Array Oper) (z i:Nat):Bool:=decide (i≠z)&&match ops[z]? with|some o=>o.after.any fun e=>Region.binds md e&&e.on == i|none=>false
theorem J9 {i:Nat} {oi:Oper} {v:Value} {fuel:Nat} {listed:Array Bool} {a:Act} {w:World} (hi:ops[i]?=some oi) (hw:JL md ops z i=true)
  (hs:Region.noSelect ops=true) (hf:Region.free md ops listed i=true) (hr:(Region.ready md ops listed).contains i=true)
  (hQ:∀c a w,Q (.panic c) (a.put oi.dst v) w→Q (.panic c) a w) (hy:YieldsIf P ops S oi v a) (hS:S w)
  (h:qL P md ops Q S z fuel (listed.setIfInBounds i true) (a.put oi.dst v) w):qL P md ops Q S z (fuel+1) listed a w:=by
 unfold JL at hw
 rw[Bool.and_eq_true]at hw
 obtain⟨h1,h2⟩:=hw
 cases hz:ops[z]? with
 | none=>rw[hz]at h2;cases h2
 | some oz=>
  rw[hz]at h2
  simp only[Array.any_eq_true',Bool.and_eq_true,beq_iff_eq]at h2
  obtain⟨e,he,hb,hon⟩:=h2
  exact Xa hi hz (of_decide_eq_true h1) ⟨e,he,hb,hon⟩ (Region.noSelect_spec hs) hQ fuel listed a w (Region.free_spec hi hf) (by simpa using hr) hy hS h
theorem QX {rs:List Nat} {fuel:Nat} {listed:Array Bool} {a:Act} {w:World} (hr:Region.ready md ops listed=rs) (hne:rs≠[])
  (h:∀i∈rs,wpOp P ops Q i (fun a' w'=>(i≠z→S w')∧qL P md ops Q S z fuel (listed.setIfInBounds i true) a' w') a w):qL P md ops Q S z (fuel+1) listed a w:=
 ⟨fun h0=>absurd (hr ▸ h0) hne,hr ▸ h⟩
theorem qB {listed:Array Bool} {a:Act} {w:World} (hr:Region.ready md ops listed=[]) (h:Q .normal a w) :
  ∀fuel,qL P md ops Q S z fuel listed a w
 | 0=>⟨hr,h⟩
 | _+1=>⟨fun _=>h,by rw[hr];simp⟩
end

theorem Ja {P:Program} {id:Nat} {ops:Array Oper} {Q:Exit→Act→World→Prop} {S:World→Prop} {a:Act} {w:World} (hm:P.follows .mixedOrders=true)
  (z:Nat) (h:qL P .any ops Q S z ops.size (Array.replicate ops.size false) a w.drew):(Code.region id ops true).wp P Q a w:=
 wp_region_any hm (QW _ _ _ _ h)
def calm (Q:Exit→Act→World→Prop):Exit→Act→World→Prop
 | .panic _,_,_=>False
 | e,a,w=>Q e a w
theorem ql {P:Program} {id:Nat} {ops:Array Oper} {Q:Exit→Act→World→Prop} {S:World→Prop} {a:Act} {w:World} (hm:P.follows .mixedOrders=true)
  (z:Nat) (h:qL P .any ops (calm Q) S z ops.size (Array.replicate ops.size false) a w.drew):(Code.region id ops true).wp P Q a w:=
 Code.wp_mono (Q:=calm Q) (fun e a w h=>by cases e<;>first|exact h|exact h.elim) (Ja hm z h)
theorem wp_of_run {P:Program} {o:Oper} {a:Act} {w w':World} {v:Value} {K:Act→World→Prop} {Q:Exit→Act→World→Prop} (h:(execOp a.eval o).run P w = .ok (.value v) w') (hk:K (a.put o.dst v) w'):o.wp P a w K Q:=by
 unfold Oper.wp
 rw[h]
 exact hk
theorem Vv {P:Program} {o:Oper} {a:Act} {w w':World} {K:Act→World→Prop} {Q:Exit→Act→World→Prop} (h:(execOp a.eval o).run P w = .ok .skip w') (hk:K (a.put o.dst undef) w'):o.wp P a w K Q:=by
 unfold Oper.wp
 rw[h]
 exact hk

section
variable {P : Program} {md : Region.Mode} {ops : Array Oper} {Q : Exit → Act → World → Prop} {S : World → Prop} {z : Nat}
theorem takeZ (i d:Nat) (v:Value) {oi:Oper} {fuel:Nat} {listed:Array Bool} {a:Act} {w:World} (hi:ops[i]?=some oi) (hd:oi.dst=some d) (hw:JL md ops z i=true)
  (hs:Region.noSelect ops=true) (hf:Region.free md ops listed i=true) (hr:(Region.ready md ops listed).contains i=true)
  (hQ:∀c a w,Q (.panic c) (a.put (some d) v) w→Q (.panic c) a w) (hy:YieldsIf P ops S oi v a) (hS:S w)
  (h:qL P md ops Q S z fuel (listed.setIfInBounds i true) (a.put (some d) v) w):qL P md ops Q S z (fuel+1) listed a w:=
 J9 hi hw hs hf hr (by rw[hd];exact hQ) hy hS (by rw[hd];exact h)
theorem tkZ (i d:Nat) (v:Value) {oi:Oper} {fuel:Nat} {listed:Array Bool} {a:Act} {w:World} (hi:ops[i]?=some oi) (hd:oi.dst=some d) (hS:S w) (hy:∀w',S w'→(execOp a.eval oi).run P w' = .ok (.value v) w')
  (h:qL P md ops Q S z fuel (listed.setIfInBounds i true) (a.put (some d) v) w) (hg:Region.wanted oi (yielded ops a.tmps)=true:=by rfl) (hw:JL md ops z i=true:=by kernel_rfl)
  (hs:Region.noSelect ops=true:=by kernel_rfl) (hf:Region.free md ops listed i=true:=by kernel_rfl) (hr:(Region.ready md ops listed).contains i=true:=by kernel_rfl)
  (hQ:∀c a w,Q (.panic c) (a.put (some d) v) w→Q (.panic c) a w:=by exact fun _ _ _ h=>h):qL P md ops Q S z (fuel+1) listed a w:=
 takeZ i d v hi hd hw hs hf hr hQ (Or.inl ⟨hg,hy⟩) hS h
theorem stepZ_val {i:Nat} {o:Oper} {fuel:Nat} {listed:Array Bool} {a:Act} {w:World} (v:Value) (w':World) (ho:ops[i]?=some o) (hg:o.guard=none) (h:(execOp a.eval o).run P w = .ok (.value v) w') (hS:S w')
  (hk:qL P md ops Q S z fuel (listed.setIfInBounds i true) (a.put o.dst v) w'):wpOp P ops Q i (fun a' w'=>(i≠z→S w')∧qL P md ops Q S z fuel (listed.setIfInBounds i true) a' w') a w:=
 Zr ho hg (wp_of_run h ⟨fun _=>hS,hk⟩)
theorem qz {i:Nat} {o:Oper} {fuel:Nat} {listed:Array Bool} {a:Act} {w:World} (d:Nat) (v:Value) (w':World) (ho:ops[i]?=some o) (hd:o.dst=some d) (hg:o.guard=none) (h:(execOp a.eval o).run P w = .ok (.value v) w') (hS:S w')
  (hk:qL P md ops Q S z fuel (listed.setIfInBounds i true) (a.put (some d) v) w'):wpOp P ops Q i (fun a' w'=>(i≠z→S w')∧qL P md ops Q S z fuel (listed.setIfInBounds i true) a' w') a w:=
 stepZ_val v w' ho hg h hS (by rw[hd];exact hk)
theorem Vw {i:Nat} {o:Oper} {fuel:Nat} {listed:Array Bool} {a:Act} {w:World} (w':World) (ho:ops[i]?=some o) (hg:o.guard=none) (h:(execOp a.eval o).run P w = .ok .skip w') (hS:i≠z→S w')
  (hk:qL P md ops Q S z fuel (listed.setIfInBounds i true) (a.put o.dst undef) w'):wpOp P ops Q i (fun a' w'=>(i≠z→S w')∧qL P md ops Q S z fuel (listed.setIfInBounds i true) a' w') a w:=
 Zr ho hg (Vv h ⟨hS,hk⟩)
theorem Vx {i:Nat} {o:Oper} {fuel:Nat} {listed:Array Bool} {a:Act} {w:World} {f:FuncId} {args:Array Value} {R:Ending→World→Prop} (ho:ops[i]?=some o) (hg:o.guard=none)
  (h:(execOp a.eval o).run P w = .ok (.enter f args) w) (hc:Calls P f args w R) (hk:∀e w',R e w'→∃v,e = .returned v∧S w'∧qL P md ops Q S z fuel (listed.setIfInBounds i true) (a.put o.dst v) w'):wpOp P ops Q i (fun a' w'=>(i≠z→S w')∧qL P md ops Q S z fuel (listed.setIfInBounds i true) a' w') a w:=by
 refine Zr ho hg ?_
 unfold Oper.wp
 rw[h]
 refine hc.mono fun e w' he=>?_
 obtain⟨v,rfl,h1,h2⟩:=hk e w' he
 exact⟨fun _=>h1,h2⟩
theorem qn {i:Nat} {o:Oper} {fuel:Nat} {listed:Array Bool} {a:Act} {w:World} {f:FuncId} {args:Array Value} {R:Ending→World→Prop} (d:Nat) (ho:ops[i]?=some o) (hd:o.dst=some d) (hg:o.guard=none)
  (h:(execOp a.eval o).run P w = .ok (.enter f args) w) (hc:Calls P f args w R) (hk:∀e w',R e w'→∃v,e = .returned v∧S w'∧qL P md ops Q S z fuel (listed.setIfInBounds i true) (a.put (some d) v) w'):wpOp P ops Q i (fun a' w'=>(i≠z→S w')∧qL P md ops Q S z fuel (listed.setIfInBounds i true) a' w') a w:=
 Vx ho hg h hc (by rw[hd];exact hk)
theorem qA {i:Nat} {o:Oper} {fuel:Nat} {listed:Array Bool} {a:Act} {w:World} (w':World) (ho:ops[i]?=some o) (hd:o.dst=none) (hg:o.guard=none) (h:(execOp a.eval o).run P w = .ok .skip w') (hS:i≠z→S w')
  (hk:qL P md ops Q S z fuel (listed.setIfInBounds i true) a w'):wpOp P ops Q i (fun a' w'=>(i≠z→S w')∧qL P md ops Q S z fuel (listed.setIfInBounds i true) a' w') a w:=
 Vw w' ho hg h hS (by rw[hd];exact hk)
theorem qk {i:Nat} {fuel:Nat} {listed:Array Bool} {a:Act} {w:World} (hr:Region.ready md ops listed=[i])
  (h1:wpOp P ops Q i (fun a' w'=>(i≠z→S w')∧qL P md ops Q S z fuel (listed.setIfInBounds i true) a' w') a w):qL P md ops Q S z (fuel+1) listed a w:=
 QX hr (by simp) fun m hm=>by
  obtain rfl:m=i:=by simpa using hm
  exact h1
theorem stepZ_2 {i j:Nat} {fuel:Nat} {listed:Array Bool} {a:Act} {w:World} (hr:Region.ready md ops listed=[i,j])
  (h1:wpOp P ops Q i (fun a' w'=>(i≠z→S w')∧qL P md ops Q S z fuel (listed.setIfInBounds i true) a' w') a w)
  (h2:wpOp P ops Q j (fun a' w'=>(j≠z→S w')∧qL P md ops Q S z fuel (listed.setIfInBounds j true) a' w') a w):qL P md ops Q S z (fuel+1) listed a w:=
 QX hr (by simp) fun m hm=>by
  rcases List.mem_cons.1 hm with rfl|hm
  ·exact h1
  obtain rfl:m=j:=by simpa using hm
  exact h2
end


theorem Qg {P:Program} {o:Oper} {a:Act} {w w':World} {s x:Operand} {t:TypeId} {u v v':Value} (ho:o.op = .call { callee:=.builtin .append,args:=#[s,x],argTypes:=#[t,t] }) (hs:a.eval s=v) (hx:a.eval x=u) (h:(Builtin.append_ #[t,t] o.type #[v,u]).run P w = .ok v' w') :
  (execOp a.eval o).run P w = .ok (.value v') w':=by
 unfold execOp
 simp only[ho,resolve,invoke,builtin,Sem.run_bind,Sem.run_pure,Result.andThen_ok,List.map_toArray,List.map_cons,List.map_nil,hs,hx,h]
section
variable {P : Program} {md : Region.Mode} {ops : Array Oper} {Q : Exit → Act → World → Prop} {S : World → Prop} {z : Nat} {α : Type} {R : ElemO α}
theorem xG {i:Nat} {o:Oper} {fuel:Nat} {listed:Array Bool} {a:Act} {w:World} (d:Nat) (s x:Operand) (t:TypeId) (ho:ops[i]?=some o) (hop:o.op = .call { callee:=.builtin .append,args:=#[s,x],argTypes:=#[t,t] }) (hd:o.dst=some d) (hg:o.guard=none)
  (e:TypeId) (ti:TypeInfo) (zv:Value) (size bytes:Nat) (ht:P.underlying t=some (.slice e)) (hi:P.info? e=some ti) (hz:ti.zero=some zv)
  (hsize:ti.size=size) (hby:ti.bytes=bytes) (hzs:zv.cells.size=size) (hsz:0<size) (hR:vd R)
  {v:Value} {xs:List α} {U T:Blks} (hs:a.eval s=v) (hO:SlO e size R w v xs U)
  (ad:Addr) (cc:Nat) (c:List Value) (y:α) (hx:a.eval x = .slice (some ad) 1 cc) (hl:c.length=size) (hnews:∀j u,c[j]?=some u→w.cell? (ad.add j)=some u) (h1:∀u∈c,u.oneCell'=true) (hy:R w c y T) (hT:Apart U T) (hTi:InB w T)
  (h63:xs.length+1≤maxLen) (hbytes:(xs.length+1)*bytes≤140737488355328)
  (hk:∀v' w',Snoc e size R w (xs++[y]) U T v' w'→S w'∧qL P md ops Q S z fuel (listed.setIfInBounds i true) (a.put (some d) v') w') :
  wpOp P ops Q i (fun a' w'=>(i≠z→S w')∧qL P md ops Q S z fuel (listed.setIfInBounds i true) a' w') a w:=by
 obtain⟨v',w',hr,h2⟩:=vG (P:=P) w t o.type e ti zv size bytes ht hi hz hsize hby hzs hsz hR hO ad cc c y hl hnews h1 hy hT hTi h63 hbytes
 obtain⟨h3,h4⟩:=hk v' w' h2
 exact qz d v' w' ho hd hg (Qg hop hs hx hr) h3 h4
end

theorem k6:(Tryz.prog.info? 48).map (fun i=>(i.zero,i.size,i.bytes))=some (some (.agg #[.slice none 0 0,.slice none 0 0,.int .i64 0,.bool false,.int .i64 0,.slice none 0 0]),6,96):=by kernel_rfl

theorem BlkO.tight {w:World} {cs:List Value} {x:BlkL} {T:Blks} (h:BlkO w cs x T):∃T',BlkO w cs x T'∧InB w T'∧∀k,T' k→T k:=by
 obtain⟨v1,v2,v3,S1,S2,S3,h0,h1,h2,h3,h4,h5,a1,a2,a3,g1,g2,g3⟩:=h
 refine⟨fun k=>S1 k∨S2 k∨S3 k,⟨v1,v2,v3,S1,S2,S3,h0,h1,h2,h3,h4,h5,a1,a2,a3,fun _ h=>.inl h,fun _ h=>.inr (.inl h),fun _ h=>.inr (.inr h)⟩,?_,?_⟩
 ·rintro k (h|h|h)
  ·exact h3.sl.inb k h
  ·exact h4.sl.inb k h
  exact h5.sl.inb k h
 rintro k (h|h|h)
 ·exact g1 k h
 ·exact g2 k h
 exact g3 k h

theorem Qh (f:FunL) (q:Option Addr) (e1:Nat) (w:World) (hn:f.name.size≤reachBytes) (i1:I64 f.params) (i2:I64 f.regs) (hB:SlF w 6 96 (BlkR w) (.slice q f.blocks.length e1) f.blocks) :
  Calls Tryz.prog 44 #[.agg #[.string f.name,.int .i64 f.params,.int .i64 f.regs,.slice q f.blocks.length e1]] w fun e w'=>(∃p c,e = .returned (.agg #[.string f.name,.int .i64 f.params,.int .i64 f.regs,.slice p f.blocks.length c])∧
   ∃S,FunO w' [.string f.name,.int .i64 f.params,.int .i64 f.regs,.slice p f.blocks.length c] f S∧LoB w.heap.size S)∧Below w.heap.size w w':=by
 obtain⟨iB,k1,k2,k3,k4⟩:=info_parts k6
 have hbd:=hB.bdC
 have hlb:f.blocks.length*96≤140737488351232:=hbd
 have hBs:SliceAt w 6 (BlkR w) q f.blocks:=by
  obtain⟨p,c,e,_,_,h⟩:=hB.outC
  cases e
  exact h
 have HBs:=q7 hBs
 have HBd:=q7 hbd
 have HN:=q7 (And.intro hn (And.intro i1 i2))
 clear hB hBs hbd hn i1 i2
 go_enter Tryz.func44,Tryz.ntmps44
 go_wp2_with fail
 obtain⟨W0,hW0⟩:∃W0,W0=(w.alloc (.cells #[.string f.name,.int .i64 f.params,.int .i64 f.regs,.slice none 0 0] 37)).alloc (.cells #[.string { data:=#[] },.int .i64 0,.int .i64 0,.slice none 0 0] 37):=⟨_,rfl⟩
 rw[←hW0]
 have hz0:W0.heap.size=w.heap.size+1+1:=by rw[hW0];simp
 have HB0:Hid (Below w.heap.size w W0):=q7 (by rw[hW0];exact bZ)
 have HA:Hid (W0.heap[w.heap.size]?=some (.cells #[.string f.name,.int .i64 f.params,.int .i64 f.regs,.slice none 0 0] 37 (0,0))):=q7 (by rw[hW0];exact qj (qh rfl))
 have HZ:Hid (W0.heap[w.heap.size+1]?=some (.cells #[.string { data:=#[] },.int .i64 0,.int .i64 0,.slice none 0 0] 37 (0,0))):=q7 (by rw[hW0];exact qh (by simp))
 clear hW0
 go_loopw [11] (fun i wr=>∃(k:Nat) (v:Value),k≤f.blocks.length∧i = .int .i64 k∧(∃S,SlO 48 6 BlkO wr v (f.blocks.take k) S∧LoB W0.heap.size S)∧wr.heap[w.heap.size]?=some (.cells #[.string f.name,.int .i64 f.params,.int .i64 f.regs,v] 37 (0,0))∧Kept (fun k=>k=w.heap.size) W0 wr) (fun i _=>f.blocks.length - (intOf i).toNat)
 case atStart=>exact⟨0,.slice none 0 0,by omega,rfl,⟨fun _=>False,SlO.nil _ _ _ _ (fun _ h=>h.elim),fun _ h=>h.elim⟩,HA.out,Kept.refl _ _⟩
 case round=>
  obtain⟨k,v,hk,rfl,⟨S,hO,hL⟩,hA,hK⟩:=hrel
  obtain⟨p,c,hv,_⟩:=hO.val
  rw[List.length_take_of_le hk]at hv
  subst hv
  have HO:=q7 hO
  have HL:=q7 hL
  have HK:=q7 hK
  have HA1:=q7 hA
  have hsz:=hK.size
  have HBw:Hid (Below w.heap.size w wr):=HB0.out.trans (hK.below (by omega) (fun _ e=>by omega))
  clear hO hL hK hA
  by_cases hlt:k<f.blocks.length
  rotate_left
  ·obtain rfl:k=f.blocks.length:=by omega
   have r0:wr.cell? ⟨w.heap.size,0,none⟩=some (.string f.name):=(blk HA1.out).1 0
   have r1:wr.cell? ⟨w.heap.size,1,none⟩=some (.int .i64 f.params):=(blk HA1.out).1 1
   have r2:wr.cell? ⟨w.heap.size,2,none⟩=some (.int .i64 f.regs):=(blk HA1.out).1 2
   have r3:wr.cell? ⟨w.heap.size,3,none⟩=some (.slice p f.blocks.length c):=(blk HA1.out).1 3
   have hZ:=(HK.out.block (w.heap.size+1) (by omega) (by omega)).trans HZ.out
   have rZ:=blk hZ
   have rz0:wr.cell? ⟨w.heap.size+1,0,none⟩=some (.string { data:=#[] }):=rZ.1 0
   have rz1:wr.cell? ⟨w.heap.size+1,1,none⟩=some (.int .i64 0):=rZ.1 1
   have rz2:wr.cell? ⟨w.heap.size+1,2,none⟩=some (.int .i64 0):=rZ.1 2
   have rz3:wr.cell? ⟨w.heap.size+1,3,none⟩=some (.slice none 0 0):=rZ.1 3
   have rf:=rZ.2
   have hzl:=q9 hZ
   go_wp2_with fail
   rw[List.take_length]at HO
   obtain⟨WF,hWF⟩:∃WF,WF=(((wr.setCell ⟨w.heap.size+1,0,none⟩ (.string f.name)).setCell ⟨w.heap.size+1,1,none⟩ (.int .i64 f.params)).setCell ⟨w.heap.size+1,2,none⟩ (.int .i64 f.regs)).setCell ⟨w.heap.size+1,3,none⟩ (.slice p f.blocks.length c):=⟨_,rfl⟩
   rw[←hWF]
   have hF1:WF.heap[w.heap.size+1]?=some (.cells #[.string f.name,.int .i64 f.params,.int .i64 f.regs,.slice p f.blocks.length c] 37 (0,0)):=by
    rw[hWF,qd (qd (qd (qd hZ 0 _) 1 _) 2 _) 3 _]
    rfl
   have hFo:∀k,k≠w.heap.size+1→WF.heap[k]?=wr.heap[k]?:=fun k h1=>by
    rw[hWF]
    repeat rw[Go.Deep.blk_setCell_other _ _ _ _ (by assumption)]
   have hFs:WF.heap.size=wr.heap.size:=by rw[hWF];simp[World.setCell]
   have hFb:Below w.heap.size w WF:=by
    rw[hWF]
    exact(((HBw.out.setCell (by simp) _).setCell (by simp) _).setCell (by simp) _).setCell (by simp) _
   clear hWF
   have k0:=(blk hF1).1 0
   have k1':=(blk hF1).1 1
   have k2':=(blk hF1).1 2
   have k3':=(blk hF1).1 3
   refine bodyPost_ret (v:=.agg #[.string f.name,.int .i64 f.params,.int .i64 f.regs,.slice p f.blocks.length c]) ?_ rfl ⟨⟨p,c,rfl,S,⟨_,rfl,HN.out.1,HN.out.2.1,HN.out.2.2,⟨HO.out.loc qK (fun i hi=>hFo i (fun e=>by have:=HL.out i hi;omega)) (by omega),HBd.out⟩⟩,fun i hi=>by have:=HL.out i hi;omega⟩,hFb⟩
   simp[results,Tryz.results44,go_sem,k0,k1',k2',k3']
  obtain⟨bp,op,cs,hp,_,hc,b0,b1,b2,rfl,b3,b4,b5,b6,b7⟩:=HBs.out.get hlt
  subst hp
  obtain⟨q1,d1,rfl,_⟩:=b5.outC
  obtain⟨q2,d2,rfl,_⟩:=b6.outC
  obtain⟨q3,d3,rfl,_⟩:=b7.outC
  have hc0:=hc 0 (by omega)
  have hbp:=q8 hc0
  have c0:=(HBw.out.cell (p:=⟨bp,_,none⟩) hbp).trans hc0
  have c1:=(HBw.out.cell (p:=⟨bp,_,none⟩) hbp).trans (hc 1 (by omega))
  have c2:=(HBw.out.cell (p:=⟨bp,_,none⟩) hbp).trans (hc 2 (by omega))
  have c3:=(HBw.out.cell (p:=⟨bp,_,none⟩) hbp).trans (hc 3 (by omega))
  have c4:=(HBw.out.cell (p:=⟨bp,_,none⟩) hbp).trans (hc 4 (by omega))
  have c5:=(HBw.out.cell (p:=⟨bp,_,none⟩) hbp).trans (hc 5 (by omega))
  simp only[List.getElem?_cons_zero,List.getElem?_cons_succ,Nat.add_zero]at c0 c1 c2 c3 c4 c5
  have HR:=q7 (And.intro b3 (And.intro b4 (And.intro b5 (And.intro b6 b7))))
  clear hc hc0 b3 b4 b5 b6 b7
  go_wp2_with fail
  obtain⟨w1,hw1⟩:∃w1,w1=wr.alloc (.cells #[.slice q1 f.blocks[k].phis.length d1,.slice q2 f.blocks[k].list.length d2,.int .i64 f.blocks[k].fin.kind,.bool f.blocks[k].fin.onr,.int .i64 f.blocks[k].fin.onn,.slice q3 f.blocks[k].fin.to.length d3] 48):=⟨_,rfl⟩
  rw[←hw1]
  have hz1:w1.heap.size=wr.heap.size+1:=by rw[hw1];simp
  have HBr:Hid (Below wr.heap.size wr w1):=q7 (by rw[hw1];exact bZ)
  have HX1:Hid (w1.heap[wr.heap.size]?=some (.cells #[.slice q1 f.blocks[k].phis.length d1,.slice q2 f.blocks[k].list.length d2,.int .i64 f.blocks[k].fin.kind,.bool f.blocks[k].fin.onr,.int .i64 f.blocks[k].fin.onn,.slice q3 f.blocks[k].fin.to.length d3] 48 (0,0))):=q7 (by rw[hw1];exact qh rfl)
  clear hw1
  have hzA:w.heap.size<wr.heap.size:=by omega
  obtain⟨Sp,hSp⟩:∃Sp:World→Prop,Sp=fun w'=>w'.heap[w.heap.size]?=some (.cells #[.string f.name,.int .i64 f.params,.int .i64 f.regs,.slice p k c] 37 (0,0))∧w'.heap[wr.heap.size]?=some (.cells #[.slice q1 f.blocks[k].phis.length d1,.slice q2 f.blocks[k].list.length d2,.int .i64 f.blocks[k].fin.kind,.bool f.blocks[k].fin.onr,.int .i64 f.blocks[k].fin.onn,.slice q3 f.blocks[k].fin.to.length d3] 48 (0,0)):=⟨_,rfl⟩
  have ha6:∀w',Sp w'→(∀j,w'.cell? ⟨w.heap.size,j,none⟩=(#[.string f.name,.int .i64 f.params,.int .i64 f.regs,.slice p k c]:Array Value)[j]?)∧(∀j,w'.cell? ⟨wr.heap.size,j,none⟩=(#[.slice q1 f.blocks[k].phis.length d1,.slice q2 f.blocks[k].list.length d2,.int .i64 f.blocks[k].fin.kind,.bool f.blocks[k].fin.onr,.int .i64 f.blocks[k].fin.onn,.slice q3 f.blocks[k].fin.to.length d3]:Array Value)[j]?)∧w.heap.size<w'.heap.size∧wr.heap.size<w'.heap.size∧w'.frozen? ⟨w.heap.size,3,none⟩=false:=fun w' h=>by
   rw[hSp]at h
   exact⟨(blk h.1).1,(blk h.2).1,q9 h.1,q9 h.2,(blk h.1).2 3⟩
  have hSk:∀{U:Blks} {x y:World},Sp x→Kept U x y→¬ U w.heap.size→¬ U wr.heap.size→Sp y:=fun {U x y} h hk n1 n2=>by
   rw[hSp]at h ⊢
   exact⟨(hk.block _ (q9 h.1) n1).trans h.1,(hk.block _ (q9 h.2) n2).trans h.2⟩
  have hcV:Sp w1:=by
   rw[hSp]
   exact⟨(HBr.out.block _ hzA).trans HA1.out,HX1.out⟩
  have hS1:Sp w1.drew:=by
   rw[hSp]at hcV ⊢
   exact hcV
  refine ql (S:=Sp) (by kernel_rfl) 7 ?_
  refine tkZ 0 15 (.pointer (some ⟨w.heap.size,3,none⟩)) rfl rfl hS1 (fun w' h=>?_) ?_
  ·obtain⟨h1,h2,h3,h4,h5⟩:=ha6 w' h
   go_simp
  refine tkZ 1 16 (.slice p k c) rfl rfl hS1 (fun w' h=>?_) ?_
  ·obtain⟨h1,h2,h3,h4,h5⟩:=ha6 w' h
   go_simp
  refine tkZ 2 17 (.agg #[.slice q1 f.blocks[k].phis.length d1,.slice q2 f.blocks[k].list.length d2,.int .i64 f.blocks[k].fin.kind,.bool f.blocks[k].fin.onr,.int .i64 f.blocks[k].fin.onn,.slice q3 f.blocks[k].fin.to.length d3]) rfl rfl hS1 (fun w' h=>?_) ?_
  ·obtain⟨h1,h2,h3,h4,h5⟩:=ha6 w' h
   have g0:=h2 0
   have g1:=h2 1
   have g2:=h2 2
   have g3:=h2 3
   have g4:=h2 4
   have g5:=h2 5
   go_simp
  have hw1:Below w.heap.size w w1.drew:=(HBw.out.trans (HBr.out.mono (by omega))).drew
  refine qk (i:=3) (by kernel_rfl) (qn 18 rfl rfl rfl (by go_simp) (J8 f.blocks[k] q1 q2 q3 d1 d2 d3 w1.drew (HR.out.2.2.1.mono hw1 (by omega) fun _ _ g=>g.below hw1) (HR.out.2.2.2.1.mono hw1 (by omega) fun _ _ g=>g.below hw1) (HR.out.2.2.2.2.mono hw1 (by omega) fun _ _ g=>g) HR.out.1 HR.out.2.1) ?_)
  rintro e w2 ⟨⟨p1,m1,p2,m2,p3,m3,rfl,T0,hT0,hjD⟩,hb2⟩
  obtain⟨T,hT,hTi,hTs⟩:=hT0.tight
  have hTl:LoB w1.drew.heap.size T:=fun k h=>hjD k (hTs k h)
  clear hT0 hjD hTs
  have hb2:Below w1.heap.size w1 w2:=(Below.refl _ w1).drew.trans hb2
  have hTl:∀k,T k→w1.heap.size≤k:=hTl
  have hS2:Sp w2:=hSk (x:=w1) hcV (Kept.of_below (S:=fun _=>False) hb2) (fun h=>h) (fun h=>h)
  refine⟨_,rfl,hS2,?_⟩
  have hO2:=HO.out.below qK (HBr.out.trans (hb2.mono (by omega)))
  have hz2:=hb2.size
  have HO2:=q7 hO2
  have HT2:=q7 hT
  have HTl:=q7 hTl
  have HTi:=q7 hTi
  have HB2:=q7 hb2
  clear hT hTl hTi hb2 hO2
  refine qk (i:=4) (by kernel_rfl) (qz 19 (.slice (some ⟨w2.heap.size,0,none⟩) 1 1) (w2.alloc (.cells #[.slice p1 f.blocks[k].phis.length m1,.slice p2 f.blocks[k].list.length m2,.int .i64 f.blocks[k].fin.kind,.bool f.blocks[k].fin.onr,.int .i64 f.blocks[k].fin.onn,.slice p3 f.blocks[k].fin.to.length m3] 48)) rfl rfl rfl (by go_simp) (hSk hS2 ((Kept.refl (fun _=>False) _).alloc _) (fun h=>h) (fun h=>h)) ?_)
  have hS3:Sp (w2.alloc (.cells #[.slice p1 f.blocks[k].phis.length m1,.slice p2 f.blocks[k].list.length m2,.int .i64 f.blocks[k].fin.kind,.bool f.blocks[k].fin.onr,.int .i64 f.blocks[k].fin.onn,.slice p3 f.blocks[k].fin.to.length m3] 48)):=hSk hS2 ((Kept.refl (fun _=>False) _).alloc _) (fun h=>h) (fun h=>h)
  refine qk (i:=5) (by kernel_rfl) (xG 20 _ _ 35 rfl rfl rfl rfl 48 iB _ 6 96 Tryz.underlying35 k1 k2 k3 k4 rfl (by decide) qK rfl (HO2.out.below qK ((Below.refl _ _).alloc (Nat.le_refl _) _)) ⟨w2.heap.size,0,none⟩ 1 [.slice p1 f.blocks[k].phis.length m1,.slice p2 f.blocks[k].list.length m2,.int .i64 f.blocks[k].fin.kind,.bool f.blocks[k].fin.onr,.int .i64 f.blocks[k].fin.onn,.slice p3 f.blocks[k].fin.to.length m3] f.blocks[k] rfl rfl ?hn ?ho (T:=T) ?hy ?ha ?ht ?hm ?hb ?_)
  case hn=>exact x8 _ _ _ rfl
  case ho=>intro u hu;simp only[List.mem_cons,List.not_mem_nil,or_false]at hu;rcases hu with rfl|rfl|rfl|rfl|rfl|rfl<;>rfl
  case hy=>exact qK _ _ _ _ _ HT2.out (fun k hk=>Below.heap_alloc _ _ k (HTi.out k hk)) (by simp)
  case ha=>exact fun k h1 h2=>by have:=HO.out.inb k h1;have:=HTl.out k h2;omega
  case ht=>exact HTi.out.mono (by simp)
  case hm=>unfold maxLen;simp;omega
  case hb=>simp;omega
  intro v2 w4 ⟨S',hO4,hsub,hK4⟩
  obtain⟨pv,cv,hv2,_⟩:=hO4.val
  have hlv:(f.blocks.take k++[f.blocks[k]]).length=k+1:=by simp;omega
  rw[hlv]at hv2
  subst hv2
  have hSn:∀i,i<W0.heap.size→¬ S i:=fun i hi h=>by have:=HL.out i h;omega
  have hgM:¬ S wr.heap.size:=fun h=>by have:=HO.out.inb _ h;omega
  have hS4:Sp w4:=hSk hS3 hK4 (hSn _ (by omega)) hgM
  refine⟨hS4,?_⟩
  refine tkZ 6 21 (.pointer (some ⟨w.heap.size,3,none⟩)) rfl rfl hS4 (fun w' h=>?_) ?_
  ·obtain⟨h1,h2,h3,h4,h5⟩:=ha6 w' h
   go_simp
  obtain⟨h1,h2,h3,h4,h5⟩:=ha6 w4 hS4
  have h13:w4.cell? ⟨w.heap.size,3,none⟩=some (.slice p k c):=h1 3
  clear h1
  refine qk (i:=7) (by kernel_rfl) (qA (w4.setCell ⟨w.heap.size,3,none⟩ (.slice pv (k+1) cv)) rfl rfl rfl (by go_simp) (fun h=>absurd rfl h) (qB (by kernel_rfl) ?_ _))
  show Exit.inBlock 1 _ Exit.normal _ _
  have hrel:(∃S,SlO 48 6 BlkO (w4.setCell ⟨w.heap.size,3,none⟩ (.slice pv (k+1) cv)) (.slice pv (k+1) cv) (f.blocks.take (k+1)) S∧LoB W0.heap.size S)∧(w4.setCell ⟨w.heap.size,3,none⟩ (.slice pv (k+1) cv)).heap[w.heap.size]?=some (.cells #[.string f.name,.int .i64 f.params,.int .i64 f.regs,.slice pv (k+1) cv] 37 (0,0))∧Kept (fun k=>k=w.heap.size) W0 (w4.setCell ⟨w.heap.size,3,none⟩ (.slice pv (k+1) cv)):=by
   have hlo:LoB W0.heap.size S':=fun i hi=>by
    rcases hsub i hi with h|h|h
    ·exact HL.out i h
    ·have:=HTl.out i h;omega
    simp at h;omega
   have e4:w4.heap[w.heap.size]?=some (.cells #[.string f.name,.int .i64 f.params,.int .i64 f.regs,.slice p k c] 37 (0,0)):=by
    rw[hSp]at hS4
    exact hS4.1
   refine⟨⟨S',?_,hlo⟩,?_,?_⟩
   ·rw[List.take_succ_eq_append_getElem hlt]
    exact hO4.loc qK (fun i hi=>Go.Deep.blk_setCell_other _ _ _ _ (fun e=>by have:=hlo i hi;have e2:i=w.heap.size:=e;omega)) (by simp[World.setCell])
   ·rw[qd e4 3 _]
    rfl
   have kA:Kept (fun k=>k=w.heap.size) W0 w2:=HK.out.trans (Kept.of_below (S:=fun _=>False) (HBr.out.trans (HB2.out.mono (by omega)))) (fun _ _ h=>h.elim)
   exact((kA.alloc _).trans hK4 (fun i hi h=>absurd h (hSn i hi))).setCell rfl _
  have ha7:=q7 hrel
  clear hrel hS4 h2 h3 h4 h5 h13 hO4 hsub hK4 hS3 hS2
  go_wp2_with fail
  exact⟨⟨k+1,.slice pv (k+1) cv,by omega,by go_num,ha7.out.1,ha7.out.2.1,ha7.out.2.2⟩,by simp[intOf];omega⟩
end Go.Proofs.YtecdphhdmjmmnaaGreatDoor
