/-
  append onto memory of the call's own, in a region that draws its order.
-/
import Derived.Test.YtgjjhadbjmcnpaaGreatDoorJCopA
import Derived.RangeFuncNested
import Derived.RangeFuncBound
import Derived.RangeFuncCalls
import Derived.RangeFuncLeaves
import Derived.RangeFuncBox
import Derived.Shelf.Abstract
import Derived.Shelf.RegionOpen
import Derived.OwnWalkIn
import Derived.TacticsInMore
import Derived.LoopNIn
import Derived.LoopIn
import Derived.OrdersHeld
import Derived.OrdersIn
set_option maxRecDepth 100000
set_option maxHeartbeats 16000000
namespace Go.Proofs.YtgjjhadbjmcnpaaGreatDoor
open Go.RowKit

theorem JQ:(Tryz.prog.info? 84).map (fun i=>(i.zero,i.size,i.bytes))=some (some (.agg #[.int .i64 0,.slice none 0 0]),2,32):=by kernel_rfl
theorem vx:(Tryz.prog.info? 51).map (fun i=>(i.zero,i.size,i.bytes))=some (some (.agg #[.int .i64 0,.int .i64 0,.bool false,.int .i64 0,.bool false,.int .i64 0,.int .i64 0,.slice none 0 0]),8,80):=by kernel_rfl
theorem SliceAt.get {α:Type} {w:World} {size:Nat} {R:List Value→α→Prop} {p:Option Addr} {xs:List α} (h:SliceAt w size R p xs) {i:Nat} (hi:i<xs.length):∃b o cs,p=some ⟨b,o,none⟩∧cs.length=size∧(∀j,j<size→w.cell? ⟨b,o+i*size+j,none⟩=cs[j]?)∧R cs xs[i]:=by
 rcases h with rfl|⟨b,o,hp,h⟩
 ·simp at hi
 obtain ⟨cs,hl,hc,hr⟩:=h i hi
 exact ⟨b,o,cs,hp,hl,hc,hr⟩
theorem SlO.set_alloc {α:Type} {e:TypeId} {size:Nat} {R:ElemO α} (hR:vS R) {w:World} {v:Value} {xs:List α} {S:Blks} (h:SlO e size R w v xs S) {n j:Nat} (hS:¬ S n) (u:Value) (o:Obj):SlO e size R ((w.setCell ⟨n,j,none⟩ u).alloc o) v xs S:=
 h.loc hR (fun k hk=>(Below.heap_alloc _ o k (by rw [Go.Deep.nblk_setCell];exact h.inb k hk)).trans (Go.Deep.blk_setCell_other w ⟨n,j,none⟩ u k (fun e=>hS (by rw [←show k=n from e];exact hk)))) (by simp [World.setCell])
theorem SlQ.set_alloc {α:Type} {e:TypeId} {size bytes:Nat} {R:ElemO α} (hR:vS R) {w:World} {v:Value} {xs:List α} {S:Blks} (h:SlQ e size bytes R w v xs S) {n j:Nat} (hS:¬ S n) (u:Value) (o:Obj):SlQ e size bytes R ((w.setCell ⟨n,j,none⟩ u).alloc o) v xs S:=⟨h.sl.set_alloc hR hS u o,h.bd⟩
theorem InB.set_alloc {w:World} {S:Blks} (h:InB w S) (a:Addr) (u:Value) (o:Obj):InB ((w.setCell a u).alloc o) S:=h.mono (by simp [World.setCell])

theorem J9 (b:BlkL) (q1 q2 q3:Option Addr) (e1 e2 e3:Nat) (w:World) (hn:SlF w 2 32 (PhiR w) (.slice q1 b.phis.length e1) b.phis) (hI:SlF w 8 80 (InsR w) (.slice q2 b.list.length e2) b.list) (hT:SlF w 1 8 vX (.slice q3 b.fin.to.length e3) b.fin.to) (i1:I64 b.fin.kind) (i2:I64 b.fin.onn) :
  Calls Tryz.prog 73 #[.agg #[.slice q1 b.phis.length e1,.slice q2 b.list.length e2,.int .i64 b.fin.kind,.bool b.fin.onr,.int .i64 b.fin.onn,.slice q3 b.fin.to.length e3]] w fun e w'=>(∃p1 c1 p2 c2 p3 c3,e = .returned (.agg #[.slice p1 b.phis.length c1,.slice p2 b.list.length c2,.int .i64 b.fin.kind,.bool b.fin.onr,.int .i64 b.fin.onn,.slice p3 b.fin.to.length c3])∧
   ∃S,BlkO w' [.slice p1 b.phis.length c1,.slice p2 b.list.length c2,.int .i64 b.fin.kind,.bool b.fin.onr,.int .i64 b.fin.onn,.slice p3 b.fin.to.length c3] b S∧LoB w.heap.size S)∧Below w.heap.size w w':=by
 obtain ⟨iP,k1,k2,k3,k4⟩:=info_parts JQ
 obtain ⟨iI,l1,l2,l3,l4⟩:=info_parts vx
 have hlp:b.phis.length*32≤140737488351232:=hn.out.elim fun _ h=>h.elim fun _ h=>h.2.1
 have hli:b.list.length*80≤140737488351232:=hI.out.elim fun _ h=>h.elim fun _ h=>h.2.1
 have hnp:SliceAt w 2 (PhiR w) q1 b.phis:=by
  obtain ⟨p,c,e,_,_,h⟩:=hn.outC
  cases e
  exact h
 have hni:SliceAt w 8 (InsR w) q2 b.list:=by
  obtain ⟨p,c,e,_,_,h⟩:=hI.outC
  cases e
  exact h
 have HN:=q8 hnp
 have HI:=q8 hni
 have HT:=q8 hT
 have HI1:=q8 i1
 have HI2:=q8 i2
 have HBd:=q8 (And.intro hn.bdC (And.intro hI.bdC hT.bdC))
 clear hn hI hT i1 i2 hnp hni
 go_enter Tryz.func73,Tryz.ntmps73
 go_wp2_with fail
 obtain ⟨W0,hW0⟩:∃W0,W0=(w.alloc (.cells #[.slice q1 b.phis.length e1,.slice q2 b.list.length e2,.int .i64 b.fin.kind,.bool b.fin.onr,.int .i64 b.fin.onn,.slice q3 b.fin.to.length e3] 49)).alloc (.cells #[.slice none 0 0,.slice none 0 0,.int .i64 0,.bool false,.int .i64 0,.slice none 0 0] 49):=⟨_,rfl⟩
 rw [←hW0]
 have hz0:W0.heap.size=w.heap.size+1+1:=by rw [hW0];simp
 have HB0:Hid (Below w.heap.size w W0):=q8 (by rw [hW0];exact bZ)
 have HA:Hid (W0.heap[w.heap.size]?=some (.cells #[.slice q1 b.phis.length e1,.slice q2 b.list.length e2,.int .i64 b.fin.kind,.bool b.fin.onr,.int .i64 b.fin.onn,.slice q3 b.fin.to.length e3] 49 (0,0))):=q8 (by rw [hW0];exact qh (qq rfl))
 have HZ:Hid (W0.heap[w.heap.size+1]?=some (.cells #[.slice none 0 0,.slice none 0 0,.int .i64 0,.bool false,.int .i64 0,.slice none 0 0] 49 (0,0))):=q8 (by rw [hW0];exact qq (by simp))
 clear hW0
 go_loopw [3,12] (fun v i wr=>∃k:Nat,k≤b.phis.length∧i = .int .i64 k∧(∃S,SlO 84 2 PhiO wr v (b.phis.take k) S∧LoB W0.heap.size S)∧Below W0.heap.size W0 wr) (fun _ i _=>b.phis.length - (intOf i).toNat)
 case atStart=>exact ⟨0,by omega,rfl,⟨fun _=>False,SlO.nil _ _ _ _ (fun _ h=>h.elim),fun _ h=>h.elim⟩,Below.refl _ _⟩
 case round=>
  obtain ⟨k,hk,rfl,⟨S,hO,hL⟩,hb⟩:=hrel
  obtain ⟨vpA,vcA,hv,_⟩:=hO.val
  rw [List.length_take_of_le hk] at hv
  subst hv
  have HO:=q8 hO
  have HL:=q8 hL
  have HB:=q8 hb
  have hsz:=hb.size
  have HBw:Hid (Below w.heap.size w wr):=HB0.out.trans (hb.mono (by omega))
  clear hO hL hb
  by_cases hlt:k<b.phis.length
  ·obtain ⟨bp,op,cs,hp,_,hc,pv,rfl,hd,hs⟩:=HN.out.get hlt
   subst hp
   obtain ⟨q,c,rfl,hq0,_,hql,hqs⟩:=hs
   have hc0:=hc 0 (by omega)
   have hc1:=hc 1 (by omega)
   have hbp:=q9 hc0
   have c0:=(HBw.out.cell (p:=⟨bp,_,none⟩) hbp).trans hc0
   have c1:=(HBw.out.cell (p:=⟨bp,_,none⟩) hbp).trans hc1
   simp only [List.getElem?_cons_zero,List.getElem?_cons_succ,Nat.add_zero] at c0 c1
   have HQ0:=q8 hq0
   have HQl:=q8 hql
   have HQs:=q8 hqs
   have HD:=q8 hd
   clear hc hc0 hc1 hq0 hql hqs hd
   go_wp2_with fail
   refine (vu b.phis[k].src q c _ (HQs.out.mono (HBw.out.trans bZ) (by omega) fun _ _ g=>g) HQ0.out HQl.out).mono ?_
   rintro e w5 ⟨p',c',rfl,⟨S2,hS2,hL2⟩,hb5⟩
   have hr5:Below wr.heap.size wr w5:=Below.trans bZ (hb5.mono (by simp))
   have hu:=qg hb5 (k:=wr.heap.size) (by simp) (qx wr _)
   obtain ⟨hu0,hu1⟩:=blk hu
   have zu:=(Array.getElem?_eq_some_iff.1 hu).1
   have hN5:¬ S wr.heap.size:=fun h=>by have:=HO.out.inb _ h;omega
   have hL2':∀k,S2 k→wr.heap.size+1≤k:=fun k h=>by have:=hL2 k h;simpa using this
   have hN2:¬ S2 wr.heap.size:=fun h=>by have:=hL2' _ h;omega
   have HO5:=q8 (HO.out.below zZ hr5)
   have HS2:=q8 hS2
   have HL2:=q8 hL2'
   have HR5:=q8 hr5
   have HNN:=q8 (And.intro hN5 hN2)
   have hkC:=hr5.size
   clear hb5 hr5 hu hS2 hL2 hL2' hN5 hN2
   go_wp2_with (at_builtin;refine zw _ rfl _ _ 41 rfl 84 iP _ 2 32 Tryz.underlying41 k1 k2 k3 k4 rfl (by decide) zZ rfl (HO5.out.set_alloc zZ HNN.out.1 _ _) ⟨w5.heap.size,0,none⟩ 1 [.int .i64 b.phis[k].dst,.slice p' b.phis[k].src.length c'] b.phis[k] rfl rfl ?hn ?ho (T:=S2) ⟨_,rfl,HD.out,HS2.out.set_alloc zJ HNN.out.2 _ _⟩ ?ha ?ht ?hm ?hb ?_)
   case hn=>exact xt _ _ _ (by simp [World.setCell])
   case ho=>intro u hu;simp only [List.mem_cons,List.not_mem_nil,or_false] at hu;rcases hu with rfl|rfl<;>rfl
   case ha=>exact fun k h1 h2=>by have:=HO.out.inb k h1;have:=HL2.out k h2;omega
   case ht=>exact HS2.out.sl.inb.set_alloc _ _ _
   case hm=>unfold maxLen;simp;omega
   case hb=>simp;omega
   intro v2 w8 ⟨S',hO8,hsub,hK⟩
   have hrel:(∃S,SlO 84 2 PhiO w8 v2 (b.phis.take (k+1)) S∧LoB W0.heap.size S)∧Below W0.heap.size W0 w8:=by
    refine ⟨⟨S',by first|exact hO8|(rw [List.take_succ_eq_append_getElem hlt];exact hO8),fun k hk=>?_⟩,?_⟩
    ·rcases hsub k hk with h|h|h
     ·exact HL.out k h
     ·have:=HL2.out k h;omega
     simp [World.setCell] at h;omega
    refine (((HB.out.trans (HR5.out.mono hsz)).setCell hsz _).alloc (by simp [World.setCell];omega) _).trans (hK.below (by simp [World.setCell];omega) HL.out)
   have ha7:=q8 hrel
   clear hO8 hsub hK hrel
   go_wp2_with fail
   exact ⟨⟨k+1,by omega,by go_num,ha7.out.1,ha7.out.2⟩,by simp [intOf];omega⟩
  obtain rfl:k=b.phis.length:=by omega
  rw [List.take_length] at HO
  have HOp:=q8 HO.out
  have HLp:=q8 HL.out
  clear HO HL
  obtain ⟨W1,hW1⟩:∃W1,W1=wr:=⟨_,rfl⟩
  rw [←hW1]
  rw [←hW1] at HOp HB HBw hsz
  have HB1:=q8 HBw.out
  have hhN:=q8 HB.out
  obtain ⟨Sp,hSp⟩:∃Sp,Sp=S:=⟨_,rfl⟩
  rw [←hSp] at HOp HLp
  have hu1:=qg hhN.out (k:=w.heap.size) (by omega) HA.out
  have k1c:W1.cell? ⟨w.heap.size,1,none⟩=some (.slice q2 b.list.length e2):=(blk hu1).1 1
  have zz1:w.heap.size<W1.heap.size:=by omega
  clear HB HBw hW1 hSp hu1
  go_wp2_with fail
  go_loopw [6,28] (fun v i wr=>∃k:Nat,k≤b.list.length∧i = .int .i64 k∧(∃S,SlO 51 8 InsO wr v (b.list.take k) S∧LoB W1.heap.size S)∧Below W1.heap.size W1 wr) (fun _ i _=>b.list.length - (intOf i).toNat)
  case atStart=>exact ⟨0,by omega,rfl,⟨fun _=>False,SlO.nil _ _ _ _ (fun _ h=>h.elim),fun _ h=>h.elim⟩,Below.refl _ _⟩
  case round=>
   obtain ⟨k,hk,rfl,⟨S,hO,hL⟩,hb⟩:=hrel
   obtain ⟨vpB,vcB,hv,_⟩:=hO.val
   rw [List.length_take_of_le hk] at hv
   subst hv
   have HO:=q8 hO
   have HL:=q8 hL
   have HB:=q8 hb
   have hsz:=hb.size
   have HBw:Hid (Below w.heap.size w wr):=HB1.out.trans (hb.mono (by omega))
   clear hO hL hb
   by_cases hlt:k<b.list.length
   ·obtain ⟨bp,op,cs,hp,_,hc,pv,rfl,hd1,hd2,hd3,hd4,hd5,hs⟩:=HI.out.get hlt
    subst hp
    obtain ⟨q,c,rfl,hq0,_,hql,hqs⟩:=hs
    have hc0:=hc 0 (by omega)
    have hc1:=hc 1 (by omega)
    have hc2:=hc 2 (by omega)
    have hc3:=hc 3 (by omega)
    have hc4:=hc 4 (by omega)
    have hc5:=hc 5 (by omega)
    have hc6:=hc 6 (by omega)
    have hc7:=hc 7 (by omega)
    have hbp:=q9 hc0
    have c0:=(HBw.out.cell (p:=⟨bp,_,none⟩) hbp).trans hc0
    have c1:=(HBw.out.cell (p:=⟨bp,_,none⟩) hbp).trans hc1
    have c2:=(HBw.out.cell (p:=⟨bp,_,none⟩) hbp).trans hc2
    have c3:=(HBw.out.cell (p:=⟨bp,_,none⟩) hbp).trans hc3
    have c4:=(HBw.out.cell (p:=⟨bp,_,none⟩) hbp).trans hc4
    have c5:=(HBw.out.cell (p:=⟨bp,_,none⟩) hbp).trans hc5
    have c6:=(HBw.out.cell (p:=⟨bp,_,none⟩) hbp).trans hc6
    have c7:=(HBw.out.cell (p:=⟨bp,_,none⟩) hbp).trans hc7
    simp only [List.getElem?_cons_zero,List.getElem?_cons_succ,Nat.add_zero] at c0 c1 c2 c3 c4 c5 c6 c7
    have HQ0:=q8 hq0
    have HQl:=q8 hql
    have HQs:=q8 hqs
    have HD:=q8 (And.intro hd1 (And.intro hd2 (And.intro hd3 (And.intro hd4 hd5))))
    clear hc hc0 hc1 hc2 hc3 hc4 hc5 hc6 hc7 hq0 hql hqs hd1 hd2 hd3 hd4 hd5
    go_wp2_with fail
    refine (vu b.list[k].args q c _ (HQs.out.mono (HBw.out.trans bZ) (by omega) fun _ _ g=>g) HQ0.out HQl.out).mono ?_
    rintro e w5 ⟨p',c',rfl,⟨S2,hS2,hL2⟩,hb5⟩
    have hr5:Below wr.heap.size wr w5:=Below.trans bZ (hb5.mono (by simp))
    have hu:=qg hb5 (k:=wr.heap.size) (by simp) (qx wr _)
    obtain ⟨hu0,hu1⟩:=blk hu
    have zu:=(Array.getElem?_eq_some_iff.1 hu).1
    have hN5:¬ S wr.heap.size:=fun h=>by have:=HO.out.inb _ h;omega
    have hL2':∀k,S2 k→wr.heap.size+1≤k:=fun k h=>by have:=hL2 k h;simpa using this
    have hN2:¬ S2 wr.heap.size:=fun h=>by have:=hL2' _ h;omega
    have HO5:=q8 (HO.out.below zR hr5)
    have HS2:=q8 hS2
    have HL2:=q8 hL2'
    have HR5:=q8 hr5
    have HNN:=q8 (And.intro hN5 hN2)
    have hkC:=hr5.size
    clear hb5 hr5 hu hS2 hL2 hL2' hN5 hN2
    go_wp2_with (at_builtin;refine zw _ rfl _ _ 42 rfl 51 iI _ 8 80 Tryz.underlying42 l1 l2 l3 l4 rfl (by decide) zR rfl (HO5.out.set_alloc zR HNN.out.1 _ _) ⟨w5.heap.size,0,none⟩ 1 [.int .i64 b.list[k].op,.int .i64 b.list[k].dst,.bool b.list[k].ar,.int .i64 b.list[k].an,.bool b.list[k].br,.int .i64 b.list[k].bn,.int .i64 b.list[k].fn,.slice p' b.list[k].args.length c'] b.list[k] rfl rfl ?hn ?ho (T:=S2) ⟨_,rfl,HD.out.1,HD.out.2.1,HD.out.2.2.1,HD.out.2.2.2.1,HD.out.2.2.2.2,HS2.out.set_alloc zJ HNN.out.2 _ _⟩ ?ha ?ht ?hm ?hb ?_)
    case hn=>exact xt _ _ _ (by simp [World.setCell])
    case ho=>intro u hu;simp only [List.mem_cons,List.not_mem_nil,or_false] at hu;rcases hu with rfl|rfl|rfl|rfl|rfl|rfl|rfl|rfl<;>rfl
    case ha=>exact fun k h1 h2=>by have:=HO.out.inb k h1;have:=HL2.out k h2;omega
    case ht=>exact HS2.out.sl.inb.set_alloc _ _ _
    case hm=>unfold maxLen;simp;omega
    case hb=>simp;omega
    intro v2 w8 ⟨S',hO8,hsub,hK⟩
    have hrel:(∃S,SlO 51 8 InsO w8 v2 (b.list.take (k+1)) S∧LoB W1.heap.size S)∧Below W1.heap.size W1 w8:=by
     refine ⟨⟨S',by first|exact hO8|(rw [List.take_succ_eq_append_getElem hlt];exact hO8),fun k hk=>?_⟩,?_⟩
     ·rcases hsub k hk with h|h|h
      ·exact HL.out k h
      ·have:=HL2.out k h;omega
      simp [World.setCell] at h;omega
     refine (((HB.out.trans (HR5.out.mono hsz)).setCell hsz _).alloc (by simp [World.setCell];omega) _).trans (hK.below (by simp [World.setCell];omega) HL.out)
    have ha7:=q8 hrel
    clear hO8 hsub hK hrel
    go_wp2_with fail
    exact ⟨⟨k+1,by omega,by go_num,ha7.out.1,ha7.out.2⟩,by simp [intOf];omega⟩
   obtain rfl:k=b.list.length:=by omega
   rw [List.take_length] at HO
   have HOl:=q8 HO.out
   have HLl:=q8 HL.out
   clear HO HL
   obtain ⟨W2,hW2⟩:∃W2,W2=wr:=⟨_,rfl⟩
   rw [←hW2]
   rw [←hW2] at HOl HB HBw hsz
   obtain ⟨Sl,hSl⟩:∃Sl,Sl=S:=⟨_,rfl⟩
   rw [←hSl] at HOl HLl
   have hkD:=q8 HB.out
   have hA2:=qg HB.out (k:=w.heap.size) (by omega) (qg hhN.out (k:=w.heap.size) (by omega) HA.out)
   have hZ2:=qg HB.out (k:=w.heap.size+1) (by omega) (qg hhN.out (k:=w.heap.size+1) (by omega) HZ.out)
   obtain ⟨ka,fa⟩:=blk hA2
   have kc0:W2.cell? ⟨w.heap.size,0,none⟩=some (.slice q1 b.phis.length e1):=ka 0
   have kc1:W2.cell? ⟨w.heap.size,1,none⟩=some (.slice q2 b.list.length e2):=ka 1
   have kc5:W2.cell? ⟨w.heap.size,5,none⟩=some (.slice q3 b.fin.to.length e3):=ka 5
   have HA2:=q8 hA2
   have HZ2:=q8 hZ2
   have zz2:w.heap.size<W2.heap.size:=by omega
   have zz3:w.heap.size+1<W2.heap.size:=by omega
   clear HB hW2 hSl hA2 hZ2 ka k1c zz1
   go_wp2_with fail
   obtain ⟨W3,hW3⟩:∃W3,W3=(W2.setCell ⟨w.heap.size,0,none⟩ (.slice vpA b.phis.length vcA)).setCell ⟨w.heap.size,1,none⟩ (.slice vpB b.list.length vcB):=⟨_,rfl⟩
   rw [←hW3]
   have hA3:W3.heap[w.heap.size]?=some (.cells #[.slice vpA b.phis.length vcA,.slice vpB b.list.length vcB,.int .i64 b.fin.kind,.bool b.fin.onr,.int .i64 b.fin.onn,.slice q3 b.fin.to.length e3] 49 (0,0)):=by
    rw [hW3,qj (qj HA2.out 0 _) 1 _]
    rfl
   have hO3:∀k,k≠w.heap.size→W3.heap[k]?=W2.heap[k]?:=fun k hk=>by
    rw [hW3]
    exact (Go.Deep.blk_setCell_other _ ⟨w.heap.size,1,none⟩ _ k hk).trans (Go.Deep.blk_setCell_other _ ⟨w.heap.size,0,none⟩ _ k hk)
   have hs3:W3.heap.size=W2.heap.size:=by rw [hW3,Go.Deep.nblk_setCell,Go.Deep.nblk_setCell]
   have hB3:Below w.heap.size w W3:=by rw [hW3];exact (HBw.out.setCell (Nat.le_refl _) _).setCell (Nat.le_refl _) _
   obtain ⟨q3',e3',hq3,hqn,_,hql,hqs⟩:=HT.out
   cases hq3
   have HO3:=q8 hO3
   have HB3:=q8 hB3
   have HA3:=q8 hA3
   have HQn:=q8 hqn
   have HQl:=q8 hql
   have HQs:=q8 hqs
   clear hO3 hB3 hA3 hqn hql hqs hW3 kc0 kc1 kc5 fa HT
   refine (vw b.fin.to q3 e3 W3 (HQs.out.mono HB3.out (by omega) fun _ _ g=>g) HQn.out HQl.out).mono ?_
   rintro e w9 ⟨p3,c3,rfl,⟨S3,hS3,hL3⟩,hb9⟩
   have hA9:=qg hb9 (k:=w.heap.size) (by omega) HA3.out
   have hZ9:=qg hb9 (k:=w.heap.size+1) (by omega) ((HO3.out (w.heap.size+1) (by omega)).trans HZ2.out)
   obtain ⟨ka,fa⟩:=blk hA9
   obtain ⟨kz,fz⟩:=blk hZ9
   have zz4:=(Array.getElem?_eq_some_iff.1 hA9).1
   have zz5:=(Array.getElem?_eq_some_iff.1 hZ9).1
   have HA9:=q8 hA9
   have HZ9:=q8 hZ9
   have HS3:=q8 hS3
   have HL3:=q8 hL3
   have HB9:=q8 hb9
   clear hA9 hZ9 hS3 hL3 hb9
   go_wp2_with fail
   obtain ⟨WF,hWF⟩:∃WF,WF=((((((w9.setCell ⟨w.heap.size,5,none⟩ (.slice p3 b.fin.to.length c3)).setCell ⟨w.heap.size+1,0,none⟩ (.slice vpA b.phis.length vcA)).setCell ⟨w.heap.size+1,1,none⟩ (.slice vpB b.list.length vcB)).setCell ⟨w.heap.size+1,2,none⟩ (.int .i64 b.fin.kind)).setCell ⟨w.heap.size+1,3,none⟩ (.bool b.fin.onr)).setCell ⟨w.heap.size+1,4,none⟩ (.int .i64 b.fin.onn)).setCell ⟨w.heap.size+1,5,none⟩ (.slice p3 b.fin.to.length c3):=⟨_,rfl⟩
   rw [←hWF]
   have hF1:WF.heap[w.heap.size+1]?=some (.cells #[.slice vpA b.phis.length vcA,.slice vpB b.list.length vcB,.int .i64 b.fin.kind,.bool b.fin.onr,.int .i64 b.fin.onn,.slice p3 b.fin.to.length c3] 49 (0,0)):=by
    rw [hWF,qj (qj (qj (qj (qj (qj ((Go.Deep.blk_setCell_other w9 ⟨w.heap.size,5,none⟩ _ (w.heap.size+1) (fun e=>by have e2:w.heap.size+1=w.heap.size:=e;omega)).trans HZ9.out) 0 _) 1 _) 2 _) 3 _) 4 _) 5 _]
    rfl
   have hFo:∀k,k≠w.heap.size→k≠w.heap.size+1→WF.heap[k]?=w9.heap[k]?:=fun k h1 h2=>by
    rw [hWF]
    repeat rw [Go.Deep.blk_setCell_other _ _ _ _ (by assumption)]
   have hFs:WF.heap.size=w9.heap.size:=by rw [hWF];simp [World.setCell]
   have hFb:Below w.heap.size w9 WF:=by
    rw [hWF]
    exact bZ
   have hz9:=HB9.out.size
   have hqZ:=hkD.out.size
   have k0:=(blk hF1).1 0
   have k1':=(blk hF1).1 1
   have k2':=(blk hF1).1 2
   have k3':=(blk hF1).1 3
   have k4':=(blk hF1).1 4
   have k5':=(blk hF1).1 5
   clear hWF
   refine bodyPost_ret (v:=.agg #[.slice vpA b.phis.length vcA,.slice vpB b.list.length vcB,.int .i64 b.fin.kind,.bool b.fin.onr,.int .i64 b.fin.onn,.slice p3 b.fin.to.length c3]) ?_ rfl ⟨⟨vpA,vcA,vpB,vcB,p3,c3,rfl,fun k=>Sp k∨Sl k∨S3 k,?_,?_⟩,?_⟩
   ·simp [results,Tryz.results73,go_sem,k0,k1',k2',k3',k4',k5']
   ·have f29:∀k,w.heap.size+1<k→k<W2.heap.size→WF.heap[k]?=W2.heap[k]?:=fun k h1 h2=>(hFo k (by omega) (by omega)).trans ((HB9.out.block k (by omega)).trans (HO3.out k (by omega)))
    have hOp:=(HOp.out.below zZ hkD.out).loc (w':=WF) zZ (fun k hk=>f29 k (by have:=HLp.out k hk;omega) (by have:=HOp.out.inb k hk;omega)) (by omega)
    have hOl:=HOl.out.loc (w':=WF) zR (fun k hk=>f29 k (by have:=HLl.out k hk;omega) (HOl.out.inb k hk)) (by omega)
    have hO3:=HS3.out.sl.loc (w':=WF) xe (fun k hk=>hFo k (by have:=HL3.out k hk;omega) (by have:=HL3.out k hk;omega)) (by omega)
    refine ⟨_,_,_,Sp,Sl,S3,rfl,HI1.out,HI2.out,⟨hOp,HBd.out.1⟩,⟨hOl,HBd.out.2.1⟩,⟨hO3,HBd.out.2.2⟩,fun k a c=>?_,fun k a c=>?_,fun k a c=>?_,fun _ h=>.inl h,fun _ h=>.inr (.inl h),fun _ h=>.inr (.inr h)⟩
    ·have:=HOp.out.inb k a;have:=HLl.out k c;omega
    ·have:=HOp.out.inb k a;have:=HL3.out k c;omega
    have:=HOl.out.inb k a;have:=HL3.out k c;omega
   ·rintro k (h|h|h)
    ·have:=HLp.out k h;omega
    ·have:=HLl.out k h;omega
    have:=HL3.out k h;omega
   exact (HB3.out.trans (HB9.out.mono (by omega))).trans hFb
end Go.Proofs.YtgjjhadbjmcnpaaGreatDoor
namespace Go.Proofs.YtgjjhadbjmcnpaaGreatDoor
open Go.RowKit Go.Shelf
attribute [local go_sem] Oper.semAt_some

def allIns (f:FunL):List InsL:=f.blocks.flatMap fun b=>b.list
theorem Qe (a:Option Addr) (w:World) :
  Calls Tryz.prog 45 #[.pointer a] w fun e w'=>e = .returned (.func (.func 74) #[] #[.pointer (some ⟨w.heap.size,0,none⟩)])∧w'=w.alloc (.cells #[.pointer a] 53):=by
 go_enter Tryz.func45,Tryz.ntmps45
 go_wp2
 go_ret
 exact ⟨rfl,rfl⟩

end Go.Proofs.YtgjjhadbjmcnpaaGreatDoor
namespace Go.Proofs.YtgjjhadbjmcnpaaGreatDoor
open Go.RowKit Go.Shelf

theorem QX {l n:Nat} {P:Program} {ops:Array Oper} {Q:Exit→Act→World→Prop} (hL:¬ LetsOut Q) (hnd:∀(i:Nat) (o:Oper),ops[i]?=some o→∀c,o.op≠.defer c) {i:Nat} {K K':Act→World→Prop} (hK:∀a w,K a w→K' a w) {a:Act} {w:World}
  (h:wpOp P ops Q i K a w):wpOpIn (Fence.wide.inRound l) n P ops Q i K' a w:=by
 unfold wpOp at h
 unfold wpOpIn
 cases ho:ops[i]? with
 | none=>
  rw [ho] at h
  exact hK _ _ h
 | some o=>
  rw [ho] at h
  simp only at h ⊢
  split
  ·rename_i hw
   rw [if_pos hw] at h
   rcases h with h|⟨_,hl⟩
   rotate_left
   ·exact absurd hl hL
   unfold Oper.wp at h
   unfold Oper.wpIn
   refine ⟨fun _ _=>trivial,?_⟩
   rw [Oper.semAt_plain _ _ _ (hnd i o ho)]
   generalize (execOp a.eval o).run P w=r at h
   cases r with
   | ok x w'=>
    cases x<;>simp only [Oper.upon] at h<;>simp only [Oper.uponIn]
    case value v=>exact hK _ _ h
    case skip=>exact hK _ _ h
    case defer d=>exact hK _ _ h
    case enter f args=>
     refine ⟨fun e=>(by simp [Fence.wide] at e),CallsIn.inRound l (callsIn_wide.2 (h.mono fun e w'' he=>?_))⟩
     cases e with
     | returned v=>exact hK _ _ he
     | panicked c=>exact he
     | outgrown=>exact he
    case row row args=>
     refine ⟨fun e=>(by simp [Fence.wide] at e),fun c cs _=>?_⟩
     obtain ⟨v,w'',r,s⟩:=h c cs
     exact ⟨v,w'',hK _ _ r,stepsIn_wide.2 s⟩
   | halt x w'=>
    cases x<;>simp only [Oper.upon] at h<;>simp only [Oper.uponIn]
    case panic v=>exact h
  rename_i hw
  rw [if_neg hw] at h
  exact ⟨fun _ _=>trivial,hK _ _ h⟩
theorem xZ {l n:Nat} {P:Program} {md:Region.Mode} {ops:Array Oper} {Q:Exit→Act→World→Prop} (hL:¬ LetsOut Q) (hnd:∀(i:Nat) (o:Oper),ops[i]?=some o→∀c,o.op≠.defer c) :
  ∀(fuel:Nat) (listed:Array Bool) (a:Act) (w:World),wpAny P md ops Q fuel listed a w→wpAnyIn (Fence.wide.inRound l) n P md ops Q fuel listed a w
 | 0,_,_,_,h=>h
 | fuel+1,_,_,_,h=>⟨h.1,fun i hi=>QX hL hnd (fun _ _ hh=>xZ hL hnd fuel _ _ _ hh) (h.2 i hi)⟩
theorem Zy {P:Program} {ops:Array Oper} {Q:Exit→Act→World→Prop} {i:Nat} {o:Oper} {K:Act→World→Prop} {a:Act} {w:World} (ho:ops[i]?=some o) (hg:o.guard=none) (h:o.wp P a w K Q):wpOp P ops Q i K a w:=by
 unfold wpOp
 rw [ho]
 simp only [Region.wanted,hg]
 exact .inl h
section
variable {P : Program} {md : Region.Mode} {ops : Array Oper} {Q : Exit → Act → World → Prop} {S : World → Prop} {z : Nat}
def qX (P:Program) (md:Region.Mode) (ops:Array Oper) (Q:Exit→Act→World→Prop) (S:World→Prop) (z:Nat):Nat→Array Bool→Act→World→Prop
 | 0,listed,a,w=>Region.ready md ops listed=[]∧Q .normal a w
 | fuel+1,listed,a,w=>
  (Region.ready md ops listed=[]→Q .normal a w)∧
  ∀i∈Region.ready md ops listed,wpOp P ops Q i (fun a' w'=>(i≠z→S w')∧qX P md ops Q S z fuel (listed.setIfInBounds i true) a' w') a w
theorem kJ:∀(fuel:Nat) (listed:Array Bool) (a:Act) (w:World),qX P md ops Q S z fuel listed a w→wpAny P md ops Q fuel listed a w
 | 0,_,_,_,h=>h
 | fuel+1,_,_,_,h=>⟨h.1,fun i hi=>wpOp_mono (fun a' w' h'=>kJ fuel _ a' w' h'.2) (h.2 i hi)⟩
theorem Xl {i:Nat} {oi oz:Oper} {v:Value} (hi:ops[i]?=some oi) (hz:ops[z]?=some oz) (hiz:i≠z) (hw:∃e∈oz.after,Region.binds md e=true∧e.on=i) (hsel:∀(j:Nat) (o:Oper) cs b,ops[j]?=some o→o.op≠.select cs b)
  (hQ:∀c a w,Q (.panic c) (a.put oi.dst v) w→Q (.panic c) a w) :
  ∀(fuel:Nat) (listed:Array Bool) (a:Act) (w:World),
   (∀j oj,ops[j]?=some oj→j≠i→listed.getD j true=false→(∀e∈oj.after,Region.binds md e=true→e.on≠i)→oi.apart ops oj=true)→
   i∈Region.ready md ops listed→YieldsIf P ops S oi v a→S w→
   qX P md ops Q S z fuel (listed.setIfInBounds i true) (a.put oi.dst v) w→qX P md ops Q S z (fuel+1) listed a w:=by
 intro fuel
 induction fuel with
 | zero=>
  intro listed a w _ hr hy hS H
  refine ⟨fun h=>(by rw [h] at hr;cases hr),fun j hj=>?_⟩
  by_cases hji:j=i
  ·subst hji;exact hy.wpOp hi hS ⟨fun _=>hS,H⟩
  have:=ready_mono hj hji
  rw [H.1] at this
  cases this
 | succ fuel ih=>
  intro listed a w hfree hr hy hS H
  refine ⟨fun h=>(by rw [h] at hr;cases hr),fun j hj=>?_⟩
  by_cases hji:j=i
  ·subst hji;exact hy.wpOp hi hS ⟨fun _=>hS,H⟩
  have h1:=H.2 j (ready_mono hj hji)
  obtain ⟨hjun,oj,hoj,hall⟩:=mem_ready.1 hj
  have hnot:∀e∈oj.after,Region.binds md e=true→e.on≠i:=fun e he hb heq=>by
   have h1:=hall e he hb
   have h0:=(mem_ready.1 hr).1
   rw [heq] at h1
   rcases Nat.lt_or_ge i listed.size with h'|h'
   ·simp [h'] at h0 h1;rw [h0] at h1;cases h1
   simp [Array.getElem?_eq_none h'] at h1
  have hjz:j≠z:=fun e=>by
   subst e
   rw [hoj] at hz
   cases hz
   obtain ⟨e,he,hb,hon⟩:=hw
   exact hnot e he hb hon
  have h2:=wpOp_putIf hoj (hfree j oj hoj hji hjun hnot) (fun cs b=>hsel i oi cs b hi) (fun cs b=>hsel j oj cs b hoj) hQ hy h1
  have hfree':∀k ok,ops[k]?=some ok→k≠i→(listed.setIfInBounds j true).getD k true=false→
    (∀e∈ok.after,Region.binds md e=true→e.on≠i)→oi.apart ops ok=true:=fun k ok hk hki hun hno=>by
   refine hfree k ok hk hki ?_ hno
   by_cases hjk:j=k
   ·subst hjk;exact hjun
   rw [getD_set_ne true hjk] at hun;exact hun
  refine wpOp_mono (fun a' w' h3=>⟨fun _=>h3.2.1 hjz,ih (listed.setIfInBounds j true) a' w' hfree' (ready_mono hr (Ne.symm hji)) h3.1 (h3.2.1 hjz) ?_⟩) h2
  rw [Array.setIfInBounds_comm _ _ hji]
  exact h3.2.2
def JR (md:Region.Mode) (ops:Array Oper) (z i:Nat):Bool:=decide (i≠z)&&match ops[z]? with|some o=>o.after.any fun e=>Region.binds md e&&e.on == i|none=>false
theorem Ja {i:Nat} {oi:Oper} {v:Value} {fuel:Nat} {listed:Array Bool} {a:Act} {w:World} (hi:ops[i]?=some oi) (hw:JR md ops z i=true)
  (hs:Region.noSelect ops=true) (hf:Region.free md ops listed i=true) (hr:(Region.ready md ops listed).contains i=true)
  (hQ:∀c a w,Q (.panic c) (a.put oi.dst v) w→Q (.panic c) a w) (hy:YieldsIf P ops S oi v a) (hS:S w)
  (h:qX P md ops Q S z fuel (listed.setIfInBounds i true) (a.put oi.dst v) w):qX P md ops Q S z (fuel+1) listed a w:=by
 unfold JR at hw
 rw [Bool.and_eq_true] at hw
 obtain ⟨h1,h2⟩:=hw
 cases hz:ops[z]? with
 | none=>rw [hz] at h2;cases h2
 | some oz=>
  rw [hz] at h2
  simp only [Array.any_eq_true',Bool.and_eq_true,beq_iff_eq] at h2
  obtain ⟨e,he,hb,hon⟩:=h2
  exact Xl hi hz (of_decide_eq_true h1) ⟨e,he,hb,hon⟩ (Region.noSelect_spec hs) hQ fuel listed a w (Region.free_spec hi hf) (by simpa using hr) hy hS h
theorem Zb {rs:List Nat} {fuel:Nat} {listed:Array Bool} {a:Act} {w:World} (hr:Region.ready md ops listed=rs) (hne:rs≠[])
  (h:∀i∈rs,wpOp P ops Q i (fun a' w'=>(i≠z→S w')∧qX P md ops Q S z fuel (listed.setIfInBounds i true) a' w') a w):qX P md ops Q S z (fuel+1) listed a w:=
 ⟨fun h0=>absurd (hr ▸ h0) hne,hr ▸ h⟩
theorem qI {listed:Array Bool} {a:Act} {w:World} (hr:Region.ready md ops listed=[]) (h:Q .normal a w) :
  ∀fuel,qX P md ops Q S z fuel listed a w
 | 0=>⟨hr,h⟩
 | _+1=>⟨fun _=>h,by rw [hr];simp⟩
end

def Jb (ops:Array Oper):Bool:=ops.toList.all fun o=>match o.op with|.defer _=>false|_=>true
theorem Q0 {ops:Array Oper} (h:Jb ops=true):∀(i:Nat) (o:Oper),ops[i]?=some o→∀c,o.op≠.defer c:=by
 intro i o ho c hc
 have hm:o∈ops.toList:=by
  rw [Array.mem_toList_iff]
  exact Array.mem_of_getElem? ho
 have:=List.all_eq_true.1 h o hm
 rw [hc] at this
 cases this
theorem qR {l n:Nat} {P:Program} {id:Nat} {ops:Array Oper} {Q:Exit→Act→World→Prop} {S:World→Prop} {a:Act} {w:World} (hm:P.follows .mixedOrders=true) (hL:¬ LetsOut Q) (hnd:Jb ops=true)
  (z:Nat) (h:qX P .any ops Q S z ops.size (Array.replicate ops.size false) a w.drew):(Code.region id ops true).wpIn (Fence.wide.inRound l) n P Q a w:=
 wpIn_region_any hm (xZ hL (Q0 hnd) _ _ _ _ (kJ _ _ _ _ h))
theorem Jc {P:Program} {id:Nat} {ops:Array Oper} {Q:Exit→Act→World→Prop} {S:World→Prop} {a:Act} {w:World} (hm:P.follows .mixedOrders=true)
  (z:Nat) (h:qX P .any ops Q S z ops.size (Array.replicate ops.size false) a w.drew):(Code.region id ops true).wp P Q a w:=
 wp_region_any hm (kJ _ _ _ _ h)
def calm (Q:Exit→Act→World→Prop):Exit→Act→World→Prop
 | .panic _,_,_=>False
 | e,a,w=>Q e a w
theorem qz {P:Program} {id:Nat} {ops:Array Oper} {Q:Exit→Act→World→Prop} {S:World→Prop} {a:Act} {w:World} (hm:P.follows .mixedOrders=true)
  (z:Nat) (h:qX P .any ops (calm Q) S z ops.size (Array.replicate ops.size false) a w.drew):(Code.region id ops true).wp P Q a w:=
 Code.wp_mono (Q:=calm Q) (fun e a w h=>by cases e<;>first|exact h|exact h.elim) (Jc hm z h)
theorem wp_of_run {P:Program} {o:Oper} {a:Act} {w w':World} {v:Value} {K:Act→World→Prop} {Q:Exit→Act→World→Prop} (h:(execOp a.eval o).run P w = .ok (.value v) w') (hk:K (a.put o.dst v) w'):o.wp P a w K Q:=by
 unfold Oper.wp
 rw [h]
 exact hk
theorem Vx {P:Program} {o:Oper} {a:Act} {w w':World} {K:Act→World→Prop} {Q:Exit→Act→World→Prop} (h:(execOp a.eval o).run P w = .ok .skip w') (hk:K (a.put o.dst undef) w'):o.wp P a w K Q:=by
 unfold Oper.wp
 rw [h]
 exact hk

section
variable {P : Program} {md : Region.Mode} {ops : Array Oper} {Q : Exit → Act → World → Prop} {S : World → Prop} {z : Nat}
theorem takeZ (i d:Nat) (v:Value) {oi:Oper} {fuel:Nat} {listed:Array Bool} {a:Act} {w:World} (hi:ops[i]?=some oi) (hd:oi.dst=some d) (hw:JR md ops z i=true)
  (hs:Region.noSelect ops=true) (hf:Region.free md ops listed i=true) (hr:(Region.ready md ops listed).contains i=true)
  (hQ:∀c a w,Q (.panic c) (a.put (some d) v) w→Q (.panic c) a w) (hy:YieldsIf P ops S oi v a) (hS:S w)
  (h:qX P md ops Q S z fuel (listed.setIfInBounds i true) (a.put (some d) v) w):qX P md ops Q S z (fuel+1) listed a w:=
 Ja hi hw hs hf hr (by rw [hd];exact hQ) hy hS (by rw [hd];exact h)
theorem tkZ (i d:Nat) (v:Value) {oi:Oper} {fuel:Nat} {listed:Array Bool} {a:Act} {w:World} (hi:ops[i]?=some oi) (hd:oi.dst=some d) (hS:S w) (hy:∀w',S w'→(execOp a.eval oi).run P w' = .ok (.value v) w')
  (h:qX P md ops Q S z fuel (listed.setIfInBounds i true) (a.put (some d) v) w) (hg:Region.wanted oi (yielded ops a.tmps)=true:=by rfl) (hw:JR md ops z i=true:=by kernel_rfl)
  (hs:Region.noSelect ops=true:=by kernel_rfl) (hf:Region.free md ops listed i=true:=by kernel_rfl) (hr:(Region.ready md ops listed).contains i=true:=by kernel_rfl)
  (hQ:∀c a w,Q (.panic c) (a.put (some d) v) w→Q (.panic c) a w:=by exact fun _ _ _ h=>h):qX P md ops Q S z (fuel+1) listed a w:=
 takeZ i d v hi hd hw hs hf hr hQ (Or.inl ⟨hg,hy⟩) hS h
theorem stepZ_val {i:Nat} {o:Oper} {fuel:Nat} {listed:Array Bool} {a:Act} {w:World} (v:Value) (w':World) (ho:ops[i]?=some o) (hg:o.guard=none) (h:(execOp a.eval o).run P w = .ok (.value v) w') (hS:S w')
  (hk:qX P md ops Q S z fuel (listed.setIfInBounds i true) (a.put o.dst v) w'):wpOp P ops Q i (fun a' w'=>(i≠z→S w')∧qX P md ops Q S z fuel (listed.setIfInBounds i true) a' w') a w:=
 Zy ho hg (wp_of_run h ⟨fun _=>hS,hk⟩)
theorem qC {i:Nat} {o:Oper} {fuel:Nat} {listed:Array Bool} {a:Act} {w:World} (d:Nat) (v:Value) (w':World) (ho:ops[i]?=some o) (hd:o.dst=some d) (hg:o.guard=none) (h:(execOp a.eval o).run P w = .ok (.value v) w') (hS:S w')
  (hk:qX P md ops Q S z fuel (listed.setIfInBounds i true) (a.put (some d) v) w'):wpOp P ops Q i (fun a' w'=>(i≠z→S w')∧qX P md ops Q S z fuel (listed.setIfInBounds i true) a' w') a w:=
 stepZ_val v w' ho hg h hS (by rw [hd];exact hk)
theorem Vy {i:Nat} {o:Oper} {fuel:Nat} {listed:Array Bool} {a:Act} {w:World} (w':World) (ho:ops[i]?=some o) (hg:o.guard=none) (h:(execOp a.eval o).run P w = .ok .skip w') (hS:i≠z→S w')
  (hk:qX P md ops Q S z fuel (listed.setIfInBounds i true) (a.put o.dst undef) w'):wpOp P ops Q i (fun a' w'=>(i≠z→S w')∧qX P md ops Q S z fuel (listed.setIfInBounds i true) a' w') a w:=
 Zy ho hg (Vx h ⟨hS,hk⟩)
theorem Vz {i:Nat} {o:Oper} {fuel:Nat} {listed:Array Bool} {a:Act} {w:World} {f:FuncId} {args:Array Value} {R:Ending→World→Prop} (ho:ops[i]?=some o) (hg:o.guard=none)
  (h:(execOp a.eval o).run P w = .ok (.enter f args) w) (hc:Calls P f args w R) (hk:∀e w',R e w'→∃v,e = .returned v∧S w'∧qX P md ops Q S z fuel (listed.setIfInBounds i true) (a.put o.dst v) w'):wpOp P ops Q i (fun a' w'=>(i≠z→S w')∧qX P md ops Q S z fuel (listed.setIfInBounds i true) a' w') a w:=by
 refine Zy ho hg ?_
 unfold Oper.wp
 rw [h]
 refine hc.mono fun e w' he=>?_
 obtain ⟨v,rfl,h1,h2⟩:=hk e w' he
 exact ⟨fun _=>h1,h2⟩
theorem qr {i:Nat} {o:Oper} {fuel:Nat} {listed:Array Bool} {a:Act} {w:World} {f:FuncId} {args:Array Value} {R:Ending→World→Prop} (d:Nat) (ho:ops[i]?=some o) (hd:o.dst=some d) (hg:o.guard=none)
  (h:(execOp a.eval o).run P w = .ok (.enter f args) w) (hc:Calls P f args w R) (hk:∀e w',R e w'→∃v,e = .returned v∧S w'∧qX P md ops Q S z fuel (listed.setIfInBounds i true) (a.put (some d) v) w'):wpOp P ops Q i (fun a' w'=>(i≠z→S w')∧qX P md ops Q S z fuel (listed.setIfInBounds i true) a' w') a w:=
 Vz ho hg h hc (by rw [hd];exact hk)
theorem qt {i:Nat} {o:Oper} {fuel:Nat} {listed:Array Bool} {a:Act} {w:World} (w':World) (ho:ops[i]?=some o) (hd:o.dst=none) (hg:o.guard=none) (h:(execOp a.eval o).run P w = .ok .skip w') (hS:i≠z→S w')
  (hk:qX P md ops Q S z fuel (listed.setIfInBounds i true) a w'):wpOp P ops Q i (fun a' w'=>(i≠z→S w')∧qX P md ops Q S z fuel (listed.setIfInBounds i true) a' w') a w:=
 Vy w' ho hg h hS (by rw [hd];exact hk)
theorem qm {i:Nat} {fuel:Nat} {listed:Array Bool} {a:Act} {w:World} (hr:Region.ready md ops listed=[i])
  (h1:wpOp P ops Q i (fun a' w'=>(i≠z→S w')∧qX P md ops Q S z fuel (listed.setIfInBounds i true) a' w') a w):qX P md ops Q S z (fuel+1) listed a w:=
 Zb hr (by simp) fun m hm=>by
  obtain rfl:m=i:=by simpa using hm
  exact h1
theorem stepZ_2 {i j:Nat} {fuel:Nat} {listed:Array Bool} {a:Act} {w:World} (hr:Region.ready md ops listed=[i,j])
  (h1:wpOp P ops Q i (fun a' w'=>(i≠z→S w')∧qX P md ops Q S z fuel (listed.setIfInBounds i true) a' w') a w)
  (h2:wpOp P ops Q j (fun a' w'=>(j≠z→S w')∧qX P md ops Q S z fuel (listed.setIfInBounds j true) a' w') a w):qX P md ops Q S z (fuel+1) listed a w:=
 Zb hr (by simp) fun m hm=>by
  rcases List.mem_cons.1 hm with rfl|hm
  ·exact h1
  obtain rfl:m=j:=by simpa using hm
  exact h2
end


theorem Qt {P:Program} {o:Oper} {a:Act} {w w':World} {s x:Operand} {t:TypeId} {u v v':Value} (ho:o.op = .call { callee:=.builtin .append,args:=#[s,x],argTypes:=#[t,t] }) (hs:a.eval s=v) (hx:a.eval x=u) (h:(Builtin.append_ #[t,t] o.type #[v,u]).run P w = .ok v' w') :
  (execOp a.eval o).run P w = .ok (.value v') w':=by
 unfold execOp
 simp only [ho,resolve,invoke,builtin,Sem.run_bind,Sem.run_pure,Result.andThen_ok,List.map_toArray,List.map_cons,List.map_nil,hs,hx,h]
section
variable {P : Program} {md : Region.Mode} {ops : Array Oper} {Q : Exit → Act → World → Prop} {S : World → Prop} {z : Nat} {α : Type} {R : ElemO α}
theorem jV {i:Nat} {o:Oper} {fuel:Nat} {listed:Array Bool} {a:Act} {w:World} (d:Nat) (s x:Operand) (t:TypeId) (ho:ops[i]?=some o) (hop:o.op = .call { callee:=.builtin .append,args:=#[s,x],argTypes:=#[t,t] }) (hd:o.dst=some d) (hg:o.guard=none)
  (e:TypeId) (ti:TypeInfo) (zv:Value) (size bytes:Nat) (ht:P.underlying t=some (.slice e)) (hi:P.info? e=some ti) (hz:ti.zero=some zv)
  (hsize:ti.size=size) (hby:ti.bytes=bytes) (hzs:zv.cells.size=size) (hsz:0<size) (hR:vS R)
  {v:Value} {xs:List α} {U T:Blks} (hs:a.eval s=v) (hO:SlO e size R w v xs U)
  (ad:Addr) (cc:Nat) (c:List Value) (y:α) (hx:a.eval x = .slice (some ad) 1 cc) (hl:c.length=size) (hnews:∀j u,c[j]?=some u→w.cell? (ad.add j)=some u) (h1:∀u∈c,u.oneCell'=true) (hy:R w c y T) (hT:Apart U T) (hTi:InB w T)
  (h63:xs.length+1≤maxLen) (hbytes:(xs.length+1)*bytes≤140737488355328)
  (hk:∀v' w',Snoc e size R w (xs++[y]) U T v' w'→S w'∧qX P md ops Q S z fuel (listed.setIfInBounds i true) (a.put (some d) v') w') :
  wpOp P ops Q i (fun a' w'=>(i≠z→S w')∧qX P md ops Q S z fuel (listed.setIfInBounds i true) a' w') a w:=by
 obtain ⟨v',w',hr,h2⟩:=vT (P:=P) w t o.type e ti zv size bytes ht hi hz hsize hby hzs hsz hR hO ad cc c y hl hnews h1 hy hT hTi h63 hbytes
 obtain ⟨h3,h4⟩:=hk v' w' h2
 exact qC d v' w' ho hd hg (Qt hop hs hx hr) h3 h4
end
end Go.Proofs.YtgjjhadbjmcnpaaGreatDoor
