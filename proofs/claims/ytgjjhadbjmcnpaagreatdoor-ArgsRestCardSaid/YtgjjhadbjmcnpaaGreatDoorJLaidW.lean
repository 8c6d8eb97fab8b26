/-
  The listed variable code.ways: what the row's condition gives the walks; the door's own he
-/
import Derived.Test.YtgjjhadbjmcnpaaGreatDoorJSoJ
import Derived.LaidMore
import Derived.OpenShut
import Derived.Stop.Joined
import Derived.LaidHandle
set_option maxRecDepth 100000
set_option maxHeartbeats 16000000
namespace Go.Proofs.YtgjjhadbjmcnpaaGreatDoor
open Go.RowKit

theorem kB {w:World} {p:Option Addr} {xs:List (Bool×Int)} (h:SliceAt w 2 k5 p xs):ValsAt w p xs.length fun i=>xs.getD i (false,0):=by
 rcases h with rfl|⟨b,o,hp,h⟩
 ·exact .inl rfl
 refine .inr ⟨b,o,hp,fun i hi=>?_⟩
 obtain ⟨cs,_,hc,⟨rfl,_⟩⟩:=h i hi
 have h0:w.cell? ⟨b,o+i*2,none⟩=some (.bool xs[i].1):=hc 0 (by omega)
 have h1:w.cell? ⟨b,o+i*2+1,none⟩=some (.int .i64 xs[i].2):=hc 1 (by omega)
 have e:xs.getD i (false,0)=xs[i]:=by simp [List.getD,hi]
 show _=some (Value.bool (xs.getD i (false,0)).1)∧_=some (Value.int .i64 (xs.getD i (false,0)).2)
 rw [e]
 exact ⟨h0,h1⟩
theorem valsS (xs:List (Bool×Int)) (p q:Option Addr) (c d:Nat) (w:World) (hl:xs.length*16≤reachBytes) (h:SliceAt w 2 k5 p xs) (g:SliceAt w 2 k5 q xs) :
  Calls Tryz.prog 102 #[.slice p xs.length c,.slice q xs.length d] w fun e w'=>e = .returned (.bool true)∧Below w.heap.size w w':=
 (XJ p q xs.length c d _ w (by unfold reachBytes at hl;omega) (kB h) (kB g)).mono fun e w' ⟨h1,m,h2⟩=>⟨h1,by rw [h2];exact below_drewN (Below.refl _ _) _⟩

theorem insSm (x:InsL) (p q:Option Addr) (c d:Nat) (w:World) (hl:x.args.length*16≤reachBytes) (h:SliceAt w 2 k5 p x.args) (g:SliceAt w 2 k5 q x.args) :
  Calls Tryz.prog 103 #[.agg #[.int .i64 x.op,.int .i64 x.dst,.bool x.ar,.int .i64 x.an,.bool x.br,.int .i64 x.bn,.int .i64 x.fn,.slice p x.args.length c],.agg #[.int .i64 x.op,.int .i64 x.dst,.bool x.ar,.int .i64 x.an,.bool x.br,.int .i64 x.bn,.int .i64 x.fn,.slice q x.args.length d]] w fun e w'=>e = .returned (.bool true)∧Below w.heap.size w w':=
 ins_same x.op x.dst x.an x.bn x.fn x.ar x.br p q x.args.length c d _ w (by unfold reachBytes at hl;omega) (kB h) (kB g)
theorem intsS (xs:List Int) (p q:Option Addr) (c d:Nat) (w:World) (hl:xs.length*8≤140737488351232) (hX:SliceAt w 1 jh p xs) (hY:SliceAt w 1 jh q xs) :
  Calls Tryz.prog 71 #[.slice p xs.length c,.slice q xs.length d] w fun e w'=>e = .returned (.bool true)∧Below w.heap.size w w':=
 (ints_any xs xs p q c d w (by omega) (by omega) hX hY).mono fun e w' h=>⟨by rw [h.1];simp,h.2⟩

theorem VX (x:BlkL) (p1 p2 p3 q1 q2 q3:Option Addr) (c1 c2 c3 d1 d2 d3:Nat) (w:World) (hP:SlF w 2 32 (PhiR w) (.slice p1 x.phis.length c1) x.phis) (hI:SlF w 8 80 (InsR w) (.slice p2 x.list.length c2) x.list) (hT:SlF w 1 8 jh (.slice p3 x.fin.to.length c3) x.fin.to)
  (gP:SlF w 2 32 (PhiR w) (.slice q1 x.phis.length d1) x.phis) (gI:SlF w 8 80 (InsR w) (.slice q2 x.list.length d2) x.list) (gT:SlF w 1 8 jh (.slice q3 x.fin.to.length d3) x.fin.to) :
  Calls Tryz.prog 72 #[.agg #[.slice p1 x.phis.length c1,.slice p2 x.list.length c2,.int .i64 x.fin.kind,.bool x.fin.onr,.int .i64 x.fin.onn,.slice p3 x.fin.to.length c3],.agg #[.slice q1 x.phis.length d1,.slice q2 x.list.length d2,.int .i64 x.fin.kind,.bool x.fin.onr,.int .i64 x.fin.onn,.slice q3 x.fin.to.length d3]] w fun e w'=>e = .returned (.bool true)∧Below w.heap.size w w':=by
 have hlp:x.phis.length*32≤140737488351232:=hP.bdC
 have hli:x.list.length*80≤140737488351232:=hI.bdC
 have hqy:x.fin.to.length*8≤140737488351232:=hT.bdC
 have hP':SliceAt w 2 (PhiR w) p1 x.phis:=by obtain ⟨_,_,e,_,_,h⟩:=hP.outC;cases e;exact h
 have hI':SliceAt w 8 (InsR w) p2 x.list:=by obtain ⟨_,_,e,_,_,h⟩:=hI.outC;cases e;exact h
 have hT':SliceAt w 1 jh p3 x.fin.to:=by obtain ⟨_,_,e,_,_,h⟩:=hT.outC;cases e;exact h
 have gP':SliceAt w 2 (PhiR w) q1 x.phis:=by obtain ⟨_,_,e,_,_,h⟩:=gP.outC;cases e;exact h
 have gI':SliceAt w 8 (InsR w) q2 x.list:=by obtain ⟨_,_,e,_,_,h⟩:=gI.outC;cases e;exact h
 have gT':SliceAt w 1 jh q3 x.fin.to:=by obtain ⟨_,_,e,_,_,h⟩:=gT.outC;cases e;exact h
 have HP:=q8 hP'
 have HI:=q8 hI'
 have HT:=q8 hT'
 have GP:=q8 gP'
 have GI:=q8 gI'
 have GT:=q8 gT'
 clear hP hI hT gP gI gT hP' hI' hT' gP' gI' gT'
 go_enter Tryz.func72,Tryz.ntmps72
 go_wp2_with fail
 obtain ⟨W0,hW0⟩:∃W0,W0=(w.alloc (.cells #[.slice p1 x.phis.length c1,.slice p2 x.list.length c2,.int .i64 x.fin.kind,.bool x.fin.onr,.int .i64 x.fin.onn,.slice p3 x.fin.to.length c3] 49)).alloc (.cells #[.slice q1 x.phis.length d1,.slice q2 x.list.length d2,.int .i64 x.fin.kind,.bool x.fin.onr,.int .i64 x.fin.onn,.slice q3 x.fin.to.length d3] 49):=⟨_,rfl⟩
 rw [←hW0]
 have hz0:W0.heap.size=w.heap.size+1+1:=by rw [hW0];simp
 have HB0:Hid (Below w.heap.size w W0):=q8 (by rw [hW0];exact bZ)
 have HA:Hid (W0.heap[w.heap.size]?=some (.cells #[.slice p1 x.phis.length c1,.slice p2 x.list.length c2,.int .i64 x.fin.kind,.bool x.fin.onr,.int .i64 x.fin.onn,.slice p3 x.fin.to.length c3] 49 (0,0))):=q8 (by rw [hW0];exact qh (qm rfl))
 have HB:Hid (W0.heap[w.heap.size+1]?=some (.cells #[.slice q1 x.phis.length d1,.slice q2 x.list.length d2,.int .i64 x.fin.kind,.bool x.fin.onr,.int .i64 x.fin.onn,.slice q3 x.fin.to.length d3] 49 (0,0))):=q8 (by rw [hW0];exact qm (by simp))
 clear hW0
 go_loopw [5] (fun i wr=>∃k:Nat,k≤x.phis.length∧i = .int .i64 k∧Below W0.heap.size W0 wr) (fun i _=>x.phis.length - (intOf i).toNat)
 case atStart=>exact ⟨0,by omega,rfl,Below.refl _ _⟩
 case round=>
  obtain ⟨k,hk,rfl,hb⟩:=hrel
  have HBr:=q8 hb
  have HBw:Hid (Below w.heap.size w wr):=HB0.out.trans (hb.mono (by omega))
  have hA:=(hb.block w.heap.size (by omega)).trans HA.out
  have hB:=(hb.block (w.heap.size+1) (by omega)).trans HB.out
  have a0:wr.cell? ⟨w.heap.size,0,none⟩=some (.slice p1 x.phis.length c1):=(blk hA).1 0
  have b0:wr.cell? ⟨w.heap.size+1,0,none⟩=some (.slice q1 x.phis.length d1):=(blk hB).1 0
  have za:=qd hA
  have zb:=qd hB
  have HA1:=q8 hA
  have HB1:=q8 hB
  clear hb hA hB
  by_cases hlt:k<x.phis.length
  ·obtain ⟨bp,op,qa,ca,hp,e0,e1,_,l1,s1⟩:=JK HP.out HBw.out hlt
   obtain ⟨bq,oq,qb,cb,hq,f0,f1,_,l2,s2⟩:=JK GP.out HBw.out hlt
   subst hp hq
   have hz1:=q9 e0
   have hz2:=q9 f0
   have HS1:=q8 s1
   have HS2:=q8 s2
   clear s1 s2
   have g1:(0:Int)≤(k:Int):=by omega
   have g2:(k:Int)<x.phis.length:=by omega
   go_wp2_with fail
   go_region_held3 (fun w'=>w'.cell? ⟨w.heap.size,0,none⟩=some (.slice (some ⟨bp,op,none⟩) x.phis.length c1)∧w'.cell? ⟨w.heap.size+1,0,none⟩=some (.slice (some ⟨bq,oq,none⟩) x.phis.length d1)∧w'.cell? ⟨bp,op+k*2,none⟩=some (.int .i64 x.phis[k].dst)∧w'.cell? ⟨bp,op+k*2+1,none⟩=some (.slice qa x.phis[k].src.length ca)∧w'.cell? ⟨bq,oq+k*2,none⟩=some (.int .i64 x.phis[k].dst)∧w'.cell? ⟨bq,oq+k*2+1,none⟩=some (.slice qb x.phis[k].src.length cb)) (go_keep)
    (first|(go_at_call 102;refine (valsS x.phis[k].src _ _ _ _ _ l1 (HS1.out.mono bZ (by omega) fun _ _ h=>h) (HS2.out.mono bZ (by omega) fun _ _ h=>h)).mono ?_;rintro e w2 ⟨rfl,hb2⟩;have hq1:=hb2.cell (p:=⟨bp,op+k*2,none⟩) (by simpa using hz1);have hq2:=hb2.cell (p:=⟨bp,op+k*2+1,none⟩) (by simpa using hz1);have hq3:=hb2.cell (p:=⟨bq,oq+k*2,none⟩) (by simpa using hz2);have hq4:=hb2.cell (p:=⟨bq,oq+k*2+1,none⟩) (by simpa using hz2);have hq5:=hb2.cell (p:=⟨w.heap.size,0,none⟩) (by simpa using za);have hq6:=hb2.cell (p:=⟨w.heap.size+1,0,none⟩) (by simpa using zb)))
   all_goals
    have HN:Hid (Below W0.heap.size W0 w2):=HBr.out.trans (Below.trans bZ (hb2.mono (by simp;exact HBr.out.size)))
    clear hb2 hq1 hq2 hq3 hq4 hq5 hq6
    go_wp2
    exact ⟨⟨k+1,by omega,by go_num,HN.out⟩,by simp [intOf];omega⟩
  obtain rfl:k=x.phis.length:=by omega
  have a1:wr.cell? ⟨w.heap.size,1,none⟩=some (.slice p2 x.list.length c2):=(blk HA1.out).1 1
  have b1:wr.cell? ⟨w.heap.size+1,1,none⟩=some (.slice q2 x.list.length d2):=(blk HB1.out).1 1
  go_wp2_with fail
  clear a0 b0 a1 b1 za zb HBw
  obtain ⟨W1,hW1⟩:∃W1,W1=wr:=⟨_,rfl⟩
  rw [←hW1]
  rw [←hW1] at HBr
  clear HA1 HB1 hW1
  have hrW:=HBr.out.size
  go_loopw [6] (fun i wr=>∃k:Nat,k≤x.list.length∧i = .int .i64 k∧Below W0.heap.size W0 wr) (fun i _=>x.list.length - (intOf i).toNat)
  case atStart=>exact ⟨0,by omega,rfl,HBr.out⟩
  case round=>
   obtain ⟨k,hk,rfl,hb⟩:=hrel
   have HBr:=q8 hb
   have HBw:Hid (Below w.heap.size w wr):=HB0.out.trans (hb.mono (by omega))
   have hA:=(hb.block w.heap.size (by omega)).trans HA.out
   have hB:=(hb.block (w.heap.size+1) (by omega)).trans HB.out
   have a1:wr.cell? ⟨w.heap.size,1,none⟩=some (.slice p2 x.list.length c2):=(blk hA).1 1
   have b1:wr.cell? ⟨w.heap.size+1,1,none⟩=some (.slice q2 x.list.length d2):=(blk hB).1 1
   have za:=qd hA
   have zb:=qd hB
   have HA1:=q8 hA
   have HB1:=q8 hB
   clear hb hA hB
   by_cases hlt:k<x.list.length
   ·obtain ⟨bp,op,qa,ca,hp,e0,e1,e2,e3,e4,e5,e6,e7,_,_,_,_,_,l1,s1⟩:=X5 HI.out HBw.out hlt
    obtain ⟨bq,oq,qb,cb,hq,f0,f1,f2,f3,f4,f5,f6,f7,_,_,_,_,_,l2,s2⟩:=X5 GI.out HBw.out hlt
    subst hp hq
    have hz1:=q9 e0
    have hz2:=q9 f0
    have HS1:=q8 s1
    have HS2:=q8 s2
    clear s1 s2
    have g1:(0:Int)≤(k:Int):=by omega
    have g2:(k:Int)<x.list.length:=by omega
    go_wp2_with fail
    go_region_held3 (fun w'=>w'.cell? ⟨w.heap.size,1,none⟩=some (.slice (some ⟨bp,op,none⟩) x.list.length c2)∧w'.cell? ⟨w.heap.size+1,1,none⟩=some (.slice (some ⟨bq,oq,none⟩) x.list.length d2)∧w'.cell? ⟨bp,op+k*8,none⟩=some (.int .i64 x.list[k].op)∧w'.cell? ⟨bp,op+k*8+1,none⟩=some (.int .i64 x.list[k].dst)∧w'.cell? ⟨bp,op+k*8+2,none⟩=some (.bool x.list[k].ar)∧w'.cell? ⟨bp,op+k*8+3,none⟩=some (.int .i64 x.list[k].an)∧w'.cell? ⟨bp,op+k*8+4,none⟩=some (.bool x.list[k].br)∧w'.cell? ⟨bp,op+k*8+5,none⟩=some (.int .i64 x.list[k].bn)∧w'.cell? ⟨bp,op+k*8+6,none⟩=some (.int .i64 x.list[k].fn)∧w'.cell? ⟨bp,op+k*8+7,none⟩=some (.slice qa x.list[k].args.length ca)∧
      w'.cell? ⟨bq,oq+k*8,none⟩=some (.int .i64 x.list[k].op)∧w'.cell? ⟨bq,oq+k*8+1,none⟩=some (.int .i64 x.list[k].dst)∧w'.cell? ⟨bq,oq+k*8+2,none⟩=some (.bool x.list[k].ar)∧w'.cell? ⟨bq,oq+k*8+3,none⟩=some (.int .i64 x.list[k].an)∧w'.cell? ⟨bq,oq+k*8+4,none⟩=some (.bool x.list[k].br)∧w'.cell? ⟨bq,oq+k*8+5,none⟩=some (.int .i64 x.list[k].bn)∧w'.cell? ⟨bq,oq+k*8+6,none⟩=some (.int .i64 x.list[k].fn)∧w'.cell? ⟨bq,oq+k*8+7,none⟩=some (.slice qb x.list[k].args.length cb)) (go_keep)
     (first|(go_at_call 103;refine (insSm x.list[k] _ _ _ _ _ l1 (HS1.out.mono bZ (by omega) fun _ _ h=>h) (HS2.out.mono bZ (by omega) fun _ _ h=>h)).mono ?_;rintro e w2 ⟨rfl,hb2⟩;have hq1:=fun o=>hb2.cell (p:=⟨bp,o,none⟩) (by simpa using hz1);have hq2:=fun o=>hb2.cell (p:=⟨bq,o,none⟩) (by simpa using hz2);have hq5:=hb2.cell (p:=⟨w.heap.size,1,none⟩) (by simpa using za);have hq6:=hb2.cell (p:=⟨w.heap.size+1,1,none⟩) (by simpa using zb)))
    all_goals
     have HN:Hid (Below W0.heap.size W0 w2):=HBr.out.trans (Below.trans bZ (hb2.mono (by simp;exact HBr.out.size)))
     clear hb2 hq1 hq2 hq5 hq6
     go_wp2
     exact ⟨⟨k+1,by omega,by go_num,HN.out⟩,by simp [intOf];omega⟩
   obtain rfl:k=x.list.length:=by omega
   have a2:wr.cell? ⟨w.heap.size,2,none⟩=some (.int .i64 x.fin.kind):=(blk HA1.out).1 2
   have b2:wr.cell? ⟨w.heap.size+1,2,none⟩=some (.int .i64 x.fin.kind):=(blk HB1.out).1 2
   have a3:wr.cell? ⟨w.heap.size,3,none⟩=some (.bool x.fin.onr):=(blk HA1.out).1 3
   have b3:wr.cell? ⟨w.heap.size+1,3,none⟩=some (.bool x.fin.onr):=(blk HB1.out).1 3
   have a4:wr.cell? ⟨w.heap.size,4,none⟩=some (.int .i64 x.fin.onn):=(blk HA1.out).1 4
   have b4:wr.cell? ⟨w.heap.size+1,4,none⟩=some (.int .i64 x.fin.onn):=(blk HB1.out).1 4
   have a5:wr.cell? ⟨w.heap.size,5,none⟩=some (.slice p3 x.fin.to.length c3):=(blk HA1.out).1 5
   have b5:wr.cell? ⟨w.heap.size+1,5,none⟩=some (.slice q3 x.fin.to.length d3):=(blk HB1.out).1 5
   go_wp2_with fail
   refine (intsS x.fin.to p3 q3 c3 d3 wr hqy (HT.out.mono HBw.out (by omega) fun _ _ h=>h) (GT.out.mono HBw.out (by omega) fun _ _ h=>h)).mono ?_
   rintro e w2 ⟨rfl,hb2⟩
   have HN:Hid (Below w.heap.size w w2):=HBw.out.trans (hb2.mono HBw.out.size)
   clear hb2
   go_wp2
   go_ret
   exact ⟨rfl,HN.out⟩

theorem blkSlot {w:World} {p:Option Addr} {xs:List BlkL} (h:SliceAt w 6 (BlkR w) p xs) {i:Nat} (hi:i<xs.length):∃b o q1 c1 q2 c2 q3 c3,p=some ⟨b,o,none⟩∧w.cell? ⟨b,o+i*6,none⟩=some (.slice q1 xs[i].phis.length c1)∧w.cell? ⟨b,o+i*6+1,none⟩=some (.slice q2 xs[i].list.length c2)∧w.cell? ⟨b,o+i*6+2,none⟩=some (.int .i64 xs[i].fin.kind)∧w.cell? ⟨b,o+i*6+3,none⟩=some (.bool xs[i].fin.onr)∧w.cell? ⟨b,o+i*6+4,none⟩=some (.int .i64 xs[i].fin.onn)∧w.cell? ⟨b,o+i*6+5,none⟩=some (.slice q3 xs[i].fin.to.length c3)∧
  SlF w 2 32 (PhiR w) (.slice q1 xs[i].phis.length c1) xs[i].phis∧SlF w 8 80 (InsR w) (.slice q2 xs[i].list.length c2) xs[i].list∧SlF w 1 8 jh (.slice q3 xs[i].fin.to.length c3) xs[i].fin.to:=by
 rcases h with rfl|⟨b,o,hp,h⟩
 ·simp at hi
 obtain ⟨cs,_,hc,hr⟩:=h i hi
 obtain ⟨v1,v2,v3,rfl,_,_,h1,h2,h3⟩:=hr
 obtain ⟨q1,c1,rfl,_⟩:=h1.outC
 obtain ⟨q2,c2,rfl,_⟩:=h2.outC
 obtain ⟨q3,c3,rfl,_⟩:=h3.outC
 exact ⟨b,o,q1,c1,q2,c2,q3,c3,hp,hc 0 (by omega),hc 1 (by omega),hc 2 (by omega),hc 3 (by omega),hc 4 (by omega),hc 5 (by omega),h1,h2,h3⟩

theorem func_same (x:FunL) (p q:Option Addr) (c d:Nat) (w:World) (_hn:x.name.size≤reachBytes) (hl:x.blocks.length*96≤reachBytes) (hP:SliceAt w 6 (BlkR w) p x.blocks) (hQ:SliceAt w 6 (BlkR w) q x.blocks) :
  Calls Tryz.prog 40 #[.agg #[.string x.name,.int .i64 x.params,.int .i64 x.regs,.slice p x.blocks.length c],.agg #[.string x.name,.int .i64 x.params,.int .i64 x.regs,.slice q x.blocks.length d]] w fun e w'=>e = .returned (.bool true)∧Below w.heap.size w w':=by
 have hlb:x.blocks.length*96≤140737488351232:=hl
 have HP:=q8 hP
 have HQ:=q8 hQ
 clear hP hQ hl
 go_enter Tryz.func40,Tryz.ntmps40
 go_wp2_with fail
 obtain ⟨W0,hW0⟩:∃W0,W0=(w.alloc (.cells #[.string x.name,.int .i64 x.params,.int .i64 x.regs,.slice p x.blocks.length c] 38)).alloc (.cells #[.string x.name,.int .i64 x.params,.int .i64 x.regs,.slice q x.blocks.length d] 38):=⟨_,rfl⟩
 rw [←hW0]
 have hz0:W0.heap.size=w.heap.size+1+1:=by rw [hW0];simp
 have HB0:Hid (Below w.heap.size w W0):=q8 (by rw [hW0];exact bZ)
 have HA:Hid (W0.heap[w.heap.size]?=some (.cells #[.string x.name,.int .i64 x.params,.int .i64 x.regs,.slice p x.blocks.length c] 38 (0,0))):=q8 (by rw [hW0];exact qh (qm rfl))
 have HB:Hid (W0.heap[w.heap.size+1]?=some (.cells #[.string x.name,.int .i64 x.params,.int .i64 x.regs,.slice q x.blocks.length d] 38 (0,0))):=q8 (by rw [hW0];exact qm (by simp))
 clear hW0
 go_loopw [5] (fun i wr=>∃k:Nat,k≤x.blocks.length∧i = .int .i64 k∧Below W0.heap.size W0 wr) (fun i _=>x.blocks.length - (intOf i).toNat)
 case atStart=>exact ⟨0,by omega,rfl,Below.refl _ _⟩
 case round=>
  obtain ⟨k,hk,rfl,hb⟩:=hrel
  have HBr:=q8 hb
  have HBw:Hid (Below w.heap.size w wr):=HB0.out.trans (hb.mono (by omega))
  have hA:=(hb.block w.heap.size (by omega)).trans HA.out
  have hB:=(hb.block (w.heap.size+1) (by omega)).trans HB.out
  have a0:wr.cell? ⟨w.heap.size,3,none⟩=some (.slice p x.blocks.length c):=(blk hA).1 3
  have b0:wr.cell? ⟨w.heap.size+1,3,none⟩=some (.slice q x.blocks.length d):=(blk hB).1 3
  have za:=qd hA
  have zb:=qd hB
  clear hb hA hB
  by_cases hlt:k<x.blocks.length
  rotate_left
  ·obtain rfl:k=x.blocks.length:=by omega
   go_wp2_with fail
   go_ret
   exact ⟨rfl,HBw.out⟩
  obtain ⟨bp,op,q1,c1,q2,c2,q3,c3,hp,e0,e1,e2,e3,e4,e5,s1,s2,s3⟩:=blkSlot (jd HP.out HBw.out) hlt
  obtain ⟨bq,oq,r1,d1,r2,d2,r3,d3,hq,f0,f1,f2,f3,f4,f5,t1,t2,t3⟩:=blkSlot (jd HQ.out HBw.out) hlt
  subst hp hq
  have hz1:=q9 e0
  have hz2:=q9 f0
  have HS:=q8 (And.intro s1 (And.intro s2 (And.intro s3 (And.intro t1 (And.intro t2 t3)))))
  clear s1 s2 s3 t1 t2 t3
  have g1:(0:Int)≤(k:Int):=by omega
  have g2:(k:Int)<x.blocks.length:=by omega
  have hbl:∀W',Below wr.heap.size wr W'→SlF W' 2 32 (PhiR W') (.slice q1 x.blocks[k].phis.length c1) x.blocks[k].phis∧SlF W' 8 80 (InsR W') (.slice q2 x.blocks[k].list.length c2) x.blocks[k].list∧SlF W' 1 8 jh (.slice q3 x.blocks[k].fin.to.length c3) x.blocks[k].fin.to∧SlF W' 2 32 (PhiR W') (.slice r1 x.blocks[k].phis.length d1) x.blocks[k].phis∧SlF W' 8 80 (InsR W') (.slice r2 x.blocks[k].list.length d2) x.blocks[k].list∧SlF W' 1 8 jh (.slice r3 x.blocks[k].fin.to.length d3) x.blocks[k].fin.to:=fun W' h=>
   ⟨HS.out.1.mono h (by omega) fun _ _ g=>g.below h,HS.out.2.1.mono h (by omega) fun _ _ g=>g.below h,HS.out.2.2.1.mono h (by omega) fun _ _ g=>g,HS.out.2.2.2.1.mono h (by omega) fun _ _ g=>g.below h,HS.out.2.2.2.2.1.mono h (by omega) fun _ _ g=>g.below h,HS.out.2.2.2.2.2.mono h (by omega) fun _ _ g=>g⟩
  have HBl:=q8 hbl
  clear hbl
  go_wp2_with fail
  go_region_held3 (fun w'=>w'.cell? ⟨w.heap.size,3,none⟩=some (.slice (some ⟨bp,op,none⟩) x.blocks.length c)∧w'.cell? ⟨w.heap.size+1,3,none⟩=some (.slice (some ⟨bq,oq,none⟩) x.blocks.length d)∧w'.cell? ⟨bp,op+k*6,none⟩=some (.slice q1 x.blocks[k].phis.length c1)∧w'.cell? ⟨bp,op+k*6+1,none⟩=some (.slice q2 x.blocks[k].list.length c2)∧w'.cell? ⟨bp,op+k*6+2,none⟩=some (.int .i64 x.blocks[k].fin.kind)∧w'.cell? ⟨bp,op+k*6+3,none⟩=some (.bool x.blocks[k].fin.onr)∧w'.cell? ⟨bp,op+k*6+4,none⟩=some (.int .i64 x.blocks[k].fin.onn)∧w'.cell? ⟨bp,op+k*6+5,none⟩=some (.slice q3 x.blocks[k].fin.to.length c3)∧
    w'.cell? ⟨bq,oq+k*6,none⟩=some (.slice r1 x.blocks[k].phis.length d1)∧w'.cell? ⟨bq,oq+k*6+1,none⟩=some (.slice r2 x.blocks[k].list.length d2)∧w'.cell? ⟨bq,oq+k*6+2,none⟩=some (.int .i64 x.blocks[k].fin.kind)∧w'.cell? ⟨bq,oq+k*6+3,none⟩=some (.bool x.blocks[k].fin.onr)∧w'.cell? ⟨bq,oq+k*6+4,none⟩=some (.int .i64 x.blocks[k].fin.onn)∧w'.cell? ⟨bq,oq+k*6+5,none⟩=some (.slice r3 x.blocks[k].fin.to.length d3)) (go_keep)
   (first|(go_at_call 72;obtain ⟨t1,t2,t3,t4,t5,t6⟩:=HBl.out wr.drew (Below.refl _ wr).drew;refine (VX x.blocks[k] _ _ _ _ _ _ _ _ _ _ _ _ _ t1 t2 t3 t4 t5 t6).mono ?_;rintro e w2 ⟨rfl,hb2⟩;have hq1:=fun o=>hb2.cell (p:=⟨bp,o,none⟩) (by simpa using hz1);have hq2:=fun o=>hb2.cell (p:=⟨bq,o,none⟩) (by simpa using hz2);have hq5:=hb2.cell (p:=⟨w.heap.size,3,none⟩) (by simpa using za);have hq6:=hb2.cell (p:=⟨w.heap.size+1,3,none⟩) (by simpa using zb)))
  all_goals
   have HN:Hid (Below W0.heap.size W0 w2):=HBr.out.trans (Below.trans bZ (hb2.mono (by simp;exact HBr.out.size)))
   clear hb2 hq1 hq2 hq5 hq6
   go_wp2
   exact ⟨⟨k+1,by omega,by go_num,HN.out⟩,by simp [intOf];omega⟩

theorem glosS {w:World} {p:Option Addr} {xs:List GloL} (h:SliceAt w 3 (GloR w) p xs) {i:Nat} (hi:i<xs.length):∃b o q c,p=some ⟨b,o,none⟩∧w.cell? ⟨b,o+i*3,none⟩=some (.string xs[i].name)∧w.cell? ⟨b,o+i*3+1,none⟩=some (.int .i64 xs[i].size)∧w.cell? ⟨b,o+i*3+2,none⟩=some (.slice q xs[i].init.length c)∧xs[i].init.length*8≤140737488351232∧SliceAt w 1 jh q xs[i].init:=by
 obtain ⟨b,o,q,c,hp,h1,h2,h3,_,_,h4,h5⟩:=gloGet h (Below.refl _ _) hi
 exact ⟨b,o,q,c,hp,h1,h2,h3,h4,h5⟩
theorem XK (xs:List GloL) (p q:Option Addr) (c d:Nat) (w:World) (hl:xs.length*48≤reachBytes) (hP:SliceAt w 3 (GloR w) p xs) (hQ:SliceAt w 3 (GloR w) q xs) :
  Calls Tryz.prog 39 #[.slice p xs.length c,.slice q xs.length d] w fun e w'=>e = .returned (.bool true)∧Below w.heap.size w w':=by
 have hlb:xs.length*48≤140737488351232:=hl
 have HP:=q8 hP
 have HQ:=q8 hQ
 clear hP hQ hl
 have hle:((xs.length:Int) != xs.length)=false:=by simp
 go_enter Tryz.func39,Tryz.ntmps39
 go_wp2_with fail
 go_loopw [5] (fun i wr=>∃k:Nat,k≤xs.length∧i = .int .i64 k∧Below w.heap.size w wr) (fun i _=>xs.length - (intOf i).toNat)
 case atStart=>exact ⟨0,by omega,rfl,Below.refl _ _⟩
 case round=>
  obtain ⟨k,hk,rfl,hb⟩:=hrel
  have HBr:=q8 hb
  clear hb
  by_cases hlt:k<xs.length
  ·obtain ⟨bp,op,qa,ca,hp,e0,e1,e2,l1,s1⟩:=glosS (jc HP.out HBr.out) hlt
   obtain ⟨bq,oq,qb,cb,hq,f0,f1,f2,l2,s2⟩:=glosS (jc HQ.out HBr.out) hlt
   subst hp hq
   have hz1:=q9 e0
   have hz2:=q9 f0
   have HS1:=q8 s1
   have HS2:=q8 s2
   clear s1 s2
   have g1:(0:Int)≤(k:Int):=by omega
   have g2:(k:Int)<xs.length:=by omega
   go_wp2_with fail
   go_region_held3 (fun w'=>w'.cell? ⟨bp,op+k*3,none⟩=some (.string xs[k].name)∧w'.cell? ⟨bp,op+k*3+1,none⟩=some (.int .i64 xs[k].size)∧w'.cell? ⟨bp,op+k*3+2,none⟩=some (.slice qa xs[k].init.length ca)∧w'.cell? ⟨bq,oq+k*3,none⟩=some (.string xs[k].name)∧w'.cell? ⟨bq,oq+k*3+1,none⟩=some (.int .i64 xs[k].size)∧w'.cell? ⟨bq,oq+k*3+2,none⟩=some (.slice qb xs[k].init.length cb)) (go_keep)
    (first|(go_at_call 71;refine (intsS xs[k].init _ _ _ _ _ l1 (HS1.out.mono bZ (by omega) fun _ _ h=>h) (HS2.out.mono bZ (by omega) fun _ _ h=>h)).mono ?_;rintro e w2 ⟨rfl,hb2⟩;have hq1:=fun o=>hb2.cell (p:=⟨bp,o,none⟩) (by simpa using hz1);have hq2:=fun o=>hb2.cell (p:=⟨bq,o,none⟩) (by simpa using hz2)))
   all_goals
    have HN:Hid (Below w.heap.size w w2):=HBr.out.trans (Below.trans bZ (hb2.mono (by simp;exact HBr.out.size)))
    clear hb2 hq1 hq2
    go_wp2
    exact ⟨⟨k+1,by omega,by go_num,HN.out⟩,by simp [intOf];omega⟩
  obtain rfl:k=xs.length:=by omega
  go_wp2_with fail
  go_ret
  exact ⟨rfl,HBr.out⟩

theorem Ze (x:UniL) (p1 p2 q1 q2:Option Addr) (c1 c2 d1 d2:Nat) (w:World) (hG:SlF w 3 48 (GloR w) (.slice p1 x.globals.length c1) x.globals) (hF:SlF w 4 56 (FunR w) (.slice p2 x.funcs.length c2) x.funcs) (gG:SlF w 3 48 (GloR w) (.slice q1 x.globals.length d1) x.globals) (gF:SlF w 4 56 (FunR w) (.slice q2 x.funcs.length d2) x.funcs) :
  Calls Tryz.prog 15 #[.agg #[.slice p1 x.globals.length c1,.slice p2 x.funcs.length c2],.agg #[.slice q1 x.globals.length d1,.slice q2 x.funcs.length d2]] w fun e w'=>e = .returned (.bool true)∧Below w.heap.size w w':=by
 have hlf:x.funcs.length*56≤140737488351232:=hF.bdC
 have HBd:=q8 hG.bdC
 have hG':SliceAt w 3 (GloR w) p1 x.globals:=by obtain ⟨_,_,e,_,_,h⟩:=hG.outC;cases e;exact h
 have hF':SliceAt w 4 (FunR w) p2 x.funcs:=by obtain ⟨_,_,e,_,_,h⟩:=hF.outC;cases e;exact h
 have gG':SliceAt w 3 (GloR w) q1 x.globals:=by obtain ⟨_,_,e,_,_,h⟩:=gG.outC;cases e;exact h
 have gF':SliceAt w 4 (FunR w) q2 x.funcs:=by obtain ⟨_,_,e,_,_,h⟩:=gF.outC;cases e;exact h
 have HG:=q8 hG'
 have HF:=q8 hF'
 have GG:=q8 gG'
 have GF:=q8 gF'
 clear hG hF gG gF hG' hF' gG' gF'
 have hle:((x.funcs.length:Int) != x.funcs.length)=false:=by simp
 go_enter Tryz.func15,Tryz.ntmps15
 go_wp2_with fail
 refine (XK x.globals _ _ _ _ _ HBd.out (jc HG.out bZ) (jc GG.out bZ)).mono ?_
 rintro e w1 ⟨rfl,hb1⟩
 have HB1:Hid (Below w.heap.size w w1):=Below.trans bZ (hb1.mono (by simp;omega))
 have HA:=q8 (qg hb1 (k:=w.heap.size) (by simp;omega) (qh (qm (w:=w) (o:=.cells #[.slice p1 x.globals.length c1,.slice p2 x.funcs.length c2] 25) rfl)))
 have HB:=q8 (qg hb1 (k:=w.heap.size+1) (by simp) (qm (w:=w.alloc (.cells #[.slice p1 x.globals.length c1,.slice p2 x.funcs.length c2] 25)) (o:=.cells #[.slice q1 x.globals.length d1,.slice q2 x.funcs.length d2] 25) (by simp)))
 have a1:w1.cell? ⟨w.heap.size,1,none⟩=some (.slice p2 x.funcs.length c2):=(blk HA.out).1 1
 have b1:w1.cell? ⟨w.heap.size+1,1,none⟩=some (.slice q2 x.funcs.length d2):=(blk HB.out).1 1
 clear hb1
 go_wp2_with fail
 clear a1 b1
 go_loopw [5] (fun i wr=>∃k:Nat,k≤x.funcs.length∧i = .int .i64 k∧Below w1.heap.size w1 wr) (fun i _=>x.funcs.length - (intOf i).toNat)
 case atStart=>exact ⟨0,by omega,rfl,Below.refl _ _⟩
 case round=>
  obtain ⟨k,hk,rfl,hb⟩:=hrel
  have HBr:=q8 hb
  have HBw:Hid (Below w.heap.size w wr):=HB1.out.trans (hb.mono HB1.out.size)
  have hA:=(hb.block w.heap.size (qd HA.out)).trans HA.out
  have hB:=(hb.block (w.heap.size+1) (qd HB.out)).trans HB.out
  have a1:wr.cell? ⟨w.heap.size,1,none⟩=some (.slice p2 x.funcs.length c2):=(blk hA).1 1
  have b1:wr.cell? ⟨w.heap.size+1,1,none⟩=some (.slice q2 x.funcs.length d2):=(blk hB).1 1
  have za:=qd hA
  have zb:=qd hB
  clear hb hA hB
  by_cases hlt:k<x.funcs.length
  ·obtain ⟨bp,op,qa,ca,hp,e0,e1,e2,e3,n1,_,_,l1,s1⟩:=k6 HF.out HBw.out hlt
   obtain ⟨bq,oq,qb,cb,hq,f0,f1,f2,f3,n2,_,_,l2,s2⟩:=k6 GF.out HBw.out hlt
   subst hp hq
   have hz1:=q9 e0
   have hz2:=q9 f0
   have HS1:=q8 s1
   have HS2:=q8 s2
   clear s1 s2
   have g1:(0:Int)≤(k:Int):=by omega
   have g2:(k:Int)<x.funcs.length:=by omega
   go_wp2_with fail
   go_region_held3 (fun w'=>w'.cell? ⟨w.heap.size,1,none⟩=some (.slice (some ⟨bp,op,none⟩) x.funcs.length c2)∧w'.cell? ⟨w.heap.size+1,1,none⟩=some (.slice (some ⟨bq,oq,none⟩) x.funcs.length d2)∧w'.cell? ⟨bp,op+k*4,none⟩=some (.string x.funcs[k].name)∧w'.cell? ⟨bp,op+k*4+1,none⟩=some (.int .i64 x.funcs[k].params)∧w'.cell? ⟨bp,op+k*4+2,none⟩=some (.int .i64 x.funcs[k].regs)∧w'.cell? ⟨bp,op+k*4+3,none⟩=some (.slice qa x.funcs[k].blocks.length ca)∧w'.cell? ⟨bq,oq+k*4,none⟩=some (.string x.funcs[k].name)∧w'.cell? ⟨bq,oq+k*4+1,none⟩=some (.int .i64 x.funcs[k].params)∧w'.cell? ⟨bq,oq+k*4+2,none⟩=some (.int .i64 x.funcs[k].regs)∧w'.cell? ⟨bq,oq+k*4+3,none⟩=some (.slice qb x.funcs[k].blocks.length cb)) (go_keep)
    (first|(go_at_call 40;refine (func_same x.funcs[k] _ _ _ _ _ n1 l1 (jd HS1.out bZ) (jd HS2.out bZ)).mono ?_;rintro e w2 ⟨rfl,hb2⟩;have hq1:=fun o=>hb2.cell (p:=⟨bp,o,none⟩) (by simpa using hz1);have hq2:=fun o=>hb2.cell (p:=⟨bq,o,none⟩) (by simpa using hz2);have hq5:=hb2.cell (p:=⟨w.heap.size,1,none⟩) (by simpa using za);have hq6:=hb2.cell (p:=⟨w.heap.size+1,1,none⟩) (by simpa using zb)))
   all_goals
    have HN:Hid (Below w1.heap.size w1 w2):=HBr.out.trans (Below.trans bZ (hb2.mono (by simp;exact HBr.out.size)))
    clear hb2 hq1 hq2 hq5 hq6
    go_wp2
    exact ⟨⟨k+1,by omega,by go_num,HN.out⟩,by simp [intOf];omega⟩
  obtain rfl:k=x.funcs.length:=by omega
  go_wp2_with fail
  go_ret
  exact ⟨rfl,HBw.out⟩

theorem XL (w:World):Calls Tryz.prog 10 #[.agg #[.slice none 0 0,.slice none 0 0]] w fun e w'=>e = .returned (.bool true)∧Below w.heap.size w w':=by
 go_enter Tryz.func10,Tryz.ntmps10
 go_wp2_with fail
 go_ret
 exact ⟨rfl,by exact bZ⟩
end Go.Proofs.YtgjjhadbjmcnpaaGreatDoor
namespace Go.Proofs.YtgjjhadbjmcnpaaGreatDoor
open Go.RowKit Go.Shelf

theorem arn_all (u:UniL) (gp fp:Option Addr) (gc fc:Nat) (w:World) (hG:SlF w 3 48 (GloR w) (.slice gp u.globals.length gc) u.globals) (hF:SlF w 4 56 (FunR w) (.slice fp u.funcs.length fc) u.funcs) (hw0:Ways w) :
  Calls Tryz.prog 7 #[.agg #[.slice gp u.globals.length gc,.slice fp u.funcs.length fc]] w fun e w'=>e = .returned (.bool true)∧Below w.heap.size w w':=by
 have hF0:SliceAt w 4 (FunR w) fp u.funcs:=by
  obtain ⟨p,c,e,_,_,h⟩:=hF.outC
  cases e
  exact h
 have hgl:u.globals.length*48≤140737488351232:=hG.bdC
 have hfl:u.funcs.length*56≤140737488351232:=hF.bdC
 have HGs:=q8 hG
 have HFs:=q8 hF
 have HW:=q8 hw0
 have HF0:=q8 hF0
 clear hG hF hF0 hw0
 go_enter Tryz.func7,Tryz.ntmps7
 go_wp2_with fail
 obtain ⟨w1,hw1⟩:∃w1,w1=w.alloc (.cells #[.slice gp u.globals.length gc,.slice fp u.funcs.length fc] 25):=⟨_,rfl⟩
 rw [←hw1]
 have hb1:Below w.heap.size w w1:=by rw [hw1];exact bZ
 have hO1:w1.heap[w.heap.size]?=some (.cells #[.slice gp u.globals.length gc,.slice fp u.funcs.length fc] 25 (0,0)):=by rw [hw1];exact qm rfl
 have hz1:w1.heap.size=w.heap.size+1:=by rw [hw1];simp
 have hgm:=SlF.mono HGs.out hb1 (by omega) fun _ _ h=>h.below hb1
 have hfm:=SlF.mono HFs.out hb1 (by omega) fun _ _ h=>h.below hb1
 have HB1:=q8 hb1
 have HO1:=q8 hO1
 clear hw1 hb1 hO1
 refine (ado_any u gp fp gc fc w1 hgm hfm (HW.out.below HB1.out)).mono ?_
 rintro e w2 ⟨h,hb2⟩
 have HB2:=q8 (HB1.out.trans (hb2.mono HB1.out.size))
 have HO2:=q8 ((hb2.block _ (by omega)).trans HO1.out)
 have hz2:=hb2.size
 clear hgm hfm hb2
 rcases h with ⟨c,k,hne,rfl⟩|⟨hc,V,hV,p1,c1,p2,c2,rfl,hgr,hfr⟩
 ·go_wp2_with fail
  refine (XL _).mono ?_
  rintro e w3 ⟨rfl,hb3⟩
  have HB3:Hid (Below w.heap.size w w3):=q8 (HB2.out.trans (Below.trans bZ (hb3.mono (by simp;omega))))
  clear hb3
  go_wp2_with fail
  go_ret
  exact ⟨rfl,HB3.out⟩
 obtain ⟨m,hm,_⟩:=hc.main
 have hpos:0<u.funcs.length:=Nat.lt_of_le_of_lt (Nat.zero_le _) (QF hm)
 have hp0:((u.funcs.length:Int) == 0)=false:=beq_eq_false_iff_ne.2 (by omega)
 have HC:=q8 hc
 have HV:=q8 hV
 have HGr:=q8 hgr
 have HFr:=q8 hfr
 clear hc hm hV hgr hfr
 go_wp2_with fail
 obtain ⟨W3,hW3⟩:∃W3,W3=(w2.alloc (.cells #[.slice p1 u.globals.length c1,.slice p2 u.funcs.length c2] 25)).alloc (.cells #[.int .i64 0,.int .i64 0] 27):=⟨_,rfl⟩
 rw [←hW3]
 have hz3:W3.heap.size=w2.heap.size+1+1:=by rw [hW3];simp
 have hb3:Below w2.heap.size w2 W3:=by rw [hW3];exact bZ
 have hO3:W3.heap[w2.heap.size]?=some (.cells #[.slice p1 u.globals.length c1,.slice p2 u.funcs.length c2] 25 (0,0)):=by rw [hW3];exact qh (qm rfl)
 have HO4:=q8 ((hb3.block _ (by omega)).trans HO2.out)
 have HB3:=q8 hb3
 have HBw:=q8 (HB2.out.trans (hb3.mono HB2.out.size))
 have HO3:=q8 hO3
 clear hW3 hb3 hO3
 go_loopg [5] u.funcs.length (fun q s wr=>∃k:Nat,k≤u.funcs.length∧q=u.funcs.length - k∧s = .int .i64 k∧Below W3.heap.size W3 wr∧∀j (h:j<u.funcs.length),j<k→u.funcs[j].params≤0)
 case atStart=>exact ⟨0,by omega,rfl,rfl,Below.refl _ _,fun _ _ h=>absurd h (by omega)⟩
 case round=>
  obtain ⟨wp,hwp⟩:∃wp,wp=wr:=⟨_,rfl⟩
  subst hwp
  obtain ⟨k,hk,rfl,rfl,hb,haa⟩:=hrel
  have HBp:=q8 hb
  have hzp:=hb.size
  have hnj:=q8 haa
  have HOp:=q8 ((hb.block _ (qd HO3.out)).trans HO3.out)
  have HOq:=q8 ((hb.block _ (qd HO4.out)).trans HO4.out)
  have o0:wp.cell? ⟨w2.heap.size,0,none⟩=some (.slice p1 u.globals.length c1):=(blk HOp.out).1 0
  have o1:wp.cell? ⟨w2.heap.size,1,none⟩=some (.slice p2 u.funcs.length c2):=(blk HOp.out).1 1
  have q0:wp.cell? ⟨w.heap.size,0,none⟩=some (.slice gp u.globals.length gc):=(blk HOq.out).1 0
  have q1:wp.cell? ⟨w.heap.size,1,none⟩=some (.slice fp u.funcs.length fc):=(blk HOq.out).1 1
  have oz1:=qd HOp.out
  have oy1:=qd HOq.out
  clear hb haa
  by_cases hlt:k<u.funcs.length
  ·have hBw:Below w.heap.size w wp:=HBw.out.trans (HBp.out.mono HBw.out.size)
   obtain ⟨fb,fo,q,c,rfl,_,g1,_⟩:=k6 HF0.out hBw hlt
   have hP:∃P,P=u.funcs[k].params:=⟨_,rfl⟩
   obtain ⟨P,hP⟩:=hP
   rw [←hP] at g1
   have HP:=q8 hP
   have HBr:=q8 hBw
   have gz:=q9 g1
   have k0:(0:Int)≤(k:Int):=by omega
   have k1:(k:Int)<u.funcs.length:=by omega
   clear hBw hP
   by_cases hp:0<P
   ·have hd:decide (0<P)=true:=decide_eq_true hp
    go_wp2_with fail
    go_ret
    exact ⟨rfl,by have:=HBr.out;exact bZ⟩
   have hd:decide (0<P)=false:=decide_eq_false hp
   go_wp2_with fail
   go_roundg (u.funcs.length - (k+1))
   case measure=>omega
   case rel=>
    refine ⟨k+1,by omega,rfl,by go_num,by exact bZ,fun j hj h=>?_⟩
    by_cases e:j=k
    ·subst e;have:=HP.out;omega
    exact hnj.out j hj (by omega)
  obtain rfl:k=u.funcs.length:=by omega
  go_wp2_with fail
  have hb4:Below w2.heap.size w2 wp:=HB3.out.trans (HBp.out.mono (by omega))
  have hBw:Below w.heap.size w wp:=HBw.out.trans (HBp.out.mono HBw.out.size)
  have hz4:=hb4.size
  have htd:=tdo_ok u gp fp gc fc wp hgl (HGs.out.mono hBw (by omega) fun _ _ h=>h.below hBw) hfl (HFs.out.mono hBw (by omega) fun _ _ h=>h.below hBw) (HW.out.below hBw) (by rw [HC.out.zero])
  have hVe:=HV.out.none fun f hf=>by
   obtain ⟨j,hj,rfl⟩:=List.mem_iff_getElem.1 hf
   exact hnj.out j hj hj
  have HVe:=q8 hVe
  have hgr:=HGr.out.mono hb4 (by omega) fun _ _ h=>h.below hb4
  have hfr:=HFr.out.mono hb4 (by omega) fun _ _ h=>h.below hb4
  rw [HVe.out] at hfr
  have hqA:=q8 hgr
  have hqB:=q8 hfr
  have hnv:=q8 hBw
  clear hb4 hBw hVe hgr hfr
  refine htd.mono ?_
  rintro e w5 ⟨⟨q1',d1,q2',d2,rfl,S,hS,_⟩,hb5⟩
  obtain ⟨hr1,hr2⟩:=hS.reads
  have HR1:=q8 hr1
  have HR2:=q8 hr2
  have HB5:=q8 hb5
  have heI:=q8 (hnv.out.trans (hb5.mono hnv.out.size))
  have hz5:=hb5.size
  have hec:=q8 ((hb5.block _ oz1).trans HOp.out)
  have v0:w5.cell? ⟨w2.heap.size,0,none⟩=some (.slice p1 u.globals.length c1):=(blk hec.out).1 0
  have v1:w5.cell? ⟨w2.heap.size,1,none⟩=some (.slice p2 u.funcs.length c2):=(blk hec.out).1 1
  have vz:=qd hec.out
  clear hS hr1 hr2 hb5 htd o0 o1 q0 q1
  obtain ⟨W6,hW6⟩:∃W6,W6=(w5.alloc (.cells #[.slice q1' u.globals.length d1,.slice q2' u.funcs.length d2] 25)).alloc (.cells #[.int .i64 0,.int .i64 0] 27):=⟨_,rfl⟩
  have hb6:Below w5.heap.size w5 W6:=by rw [hW6];exact bZ
  have hbV:Below wp.heap.size wp W6:=HB5.out.trans (hb6.mono HB5.out.size)
  have htl:(qG u).funcs.length=u.funcs.length:=by simp [qG]
  have hu:=Ze (qG u) p1 p2 q1' q2' c1 c2 d1 d2 W6 (hqA.out.mono hbV (by omega) fun _ _ h=>h.below hbV) (by rw [htl];exact hqB.out.mono hbV (by omega) fun _ _ h=>h.below hbV) (HR1.out.mono hb6 (by omega) fun _ _ h=>h.below hb6) (by rw [htl];exact HR2.out.mono hb6 (by omega) fun _ _ h=>h.below hb6)
  rw [htl,hW6] at hu
  rw [hW6] at hb6
  have HU:=q8 hu
  have HB6:=q8 hb6
  clear hW6 hb6 hbV hu htl
  go_wp2_with (go_at_call 15;refine HU.out.mono ?_;rintro e w7 ⟨rfl,hb7⟩;have HB7:Hid (Below w.heap.size w w7):=q8 ((heI.out.trans (HB6.out.mono heI.out.size)).trans (hb7.mono (by simp;omega)));clear hb7)
  go_ret
  exact ⟨rfl,HB7.out⟩
end Go.Proofs.YtgjjhadbjmcnpaaGreatDoor
namespace Go.Proofs.YtgjjhadbjmcnpaaGreatDoor
open Go.ChangeShapes Go.WideShapes Go.ChangeAt Go.RowKit

def jg:List (String×DataW Unit):=Rows.argsSaysRow.laid
def nameWays : String := (Rows.argsSaysRow.laid.map (·.1)).headD ""
theorem gWays:Tryz.prog.globalNamed nameWays=some 0:=by kernel_rfl
theorem tWays:(Tryz.prog.globals[0]?).map (·.type)=some 121:=by kernel_rfl
theorem own:ownKnob Tryz.prog.godebug=none:=by kernel_rfl
theorem laidOut:laidOutB Tryz.prog=true:=by kernel_rfl
theorem XM (os:Os) (args:Array Value):laidMetH Tryz.prog jg ((World.doorLaid Tryz.prog 400 os).forCall (fun _ _=>0) ⟨#[],args,[]⟩).memory:=
 laidMetH_of_parts3 (fuel:=8) (laidMet_of_run' 8 (by kernel_rfl) (by kernel_rfl)) (by kernel_rfl) (by kernel_rfl)

theorem kS {W:World} (h:laidMetH Tryz.prog jg W):Ways W:=by
 rw [MakeChecks.laidMetH_plain _ _ _ (by kernel_rfl)] at h
 obtain ⟨ps,⟨g1,t1,cs1,f1,p1,q1,hg1,ht1,hv1,hd1,_,_⟩,_,_⟩:=h
 obtain rfl:=Option.some.inj (gWays.symm.trans hg1)
 obtain rfl:=Option.some.inj (tWays.symm.trans ht1)
 obtain ⟨xs,m1,rfl,hx1,hlen,hn4,hel⟩:=DataW.trod_array Tryz.underlying121 hd1
 have c3:Tryz.prog.cellsOf 3=1:=by kernel_rfl
 have c4:Tryz.prog.cellsOf 121=4:=by kernel_rfl
 rw [c4] at hlen
 obtain ⟨l1⟩:=cs1
 obtain ⟨a0,a1,a2,a3,rfl⟩:=Vq (show l1.length=4 from hlen)
 obtain ⟨x0,x1,x2,x3,rfl⟩:=Vq hn4
 simp only [Rows.laid_turnery_code_ways,List.map_cons,List.map_nil,Prod.mk.injEq,DataW.agg.injEq,List.cons.injEq] at hx1
 rw [c3] at hel
 have hv:=World.var?_cell hg1 hv1
 have one:∀(i:Nat) (a:Value) (x:DataW Unit×List MemPlace) (n:Int),DataW.trod (fun _=>()) Tryz.prog W 0 (fun _=>true) false m1 3 [a]=some x→DataW.lit (.int .i64 n)=x.1→a = .int .i64 n:=fun i a x n h e=>by
  obtain ⟨k,e1,e2,_⟩:=DataW.trod_int Tryz.underlying3 (show DataW.trod _ Tryz.prog W 0 _ false m1 3 _=some x from h)
  rw [e2] at e
  simp at e e1
  rw [e1,e]
 obtain ⟨⟨e0,e1,e2,e3,_⟩,_⟩:=hx1
 obtain rfl:=one 0 a0 x0 0 (hel 0 (by decide)) e0
 obtain rfl:=one 1 a1 x1 0 (hel 1 (by decide)) e1
 obtain rfl:=one 2 a2 x2 1 (hel 2 (by decide)) e2
 obtain rfl:=one 3 a3 x3 2 (hel 3 (by decide)) e3
 exact ⟨by simpa using hv 0,by simpa using hv 1,by simpa using hv 2,by simpa using hv 3⟩
end Go.Proofs.YtgjjhadbjmcnpaaGreatDoor
